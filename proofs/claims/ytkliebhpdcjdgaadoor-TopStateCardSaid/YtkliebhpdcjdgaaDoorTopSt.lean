/-
  cultop.TopState: the walk. Conditions: the name's length; the library's own number is set.
-/
import Derived.Test.YtkliebhpdcjdgaaDoorTopStateP
import Derived.Test.YtkliebhpdcjdgaaDoorTopS
import Derived.Test.YtkliebhpdcjdgaaDoorOfS
import Derived.Test.YtkliebhpdcjdgaaDoorGateS
import Derived.Test.YtkliebhpdcjdgaaDoorSet2
import Derived.Test.YtkliebhpdcjdgaaDoorWrite
import Derived.Test.YtkliebhpdcjdgaaDoorRead
namespace Go.Proofs.YtkliebhpdcjdgaaDoor
open Go.RowKit Go.Shelf

section
variable {A : Option Addr} {n c : Nat} {ps : List Pr} {w : World}
set_option maxRecDepth 20000 in
set_option maxHeartbeats 1600000 in
theorem index_head (h : Sp2 w A n c ps) {p : Pr} (h0 : ps[0]? = some p) :
    Calls Tryd.prog 46 #[.slice A n c, .agg #[.string p.1, .string p.2]] w fun e w' => e = .returned (.int .i64 0) ∧ Below w.heap.size w w' := by
  obtain ⟨u, l⟩ := p
  have hb0 : Below w.heap.size w (w.alloc (.cells #[.string u, .string l] 45)) := by repeat' (first | assumption | with_reducible exact Below.refl _ _ | with_reducible apply Below.drew | with_reducible apply below_drewN | with_reducible apply below_alloc | with_reducible refine below_set ?_ ?_ _ | (simp only [World.size_alloc, World.heap_drewN]; omega) | (simp; omega))
  have h1 := h.on hb0
  have hn : 0 < n := by
    have e := h.slen
    have := (List.getElem?_eq_some_iff.1 h0).1
    omega
  have hm := h.len_max
  have H0 := hide h0
  clear h0
  go_enter Tryd.func46, Tryd.ntmps46
  go_wp2_with fail
  go_loopw [8] (fun i wr => ∃ k : Nat, Hid (k = 0) ∧ i = .int .i64 k ∧ wr = w.alloc (.cells #[.string u, .string l] 45)) (fun _ _ => 0)
  case atStart => exact ⟨0, hide rfl, rfl, rfl⟩
  case round =>
    obtain ⟨k, HK, rfl, rfl⟩ := hrel
    have hlt : k < n := by rw [HK.out]; exact hn
    obtain ⟨ad, x, rfl, hbx, hx, hcx, hdx⟩ := h1.scell hlt
    obtain rfl : x = (u, l) := by
      rw [HK.out, H0.out] at hx
      injection hx with hx
      exact hx.symm
    clear hx
    dsimp only at hcx hdx
    have t1 := same_texts (a := u) rfl
    have t2 := same_texts (a := l) rfl
    go_wp2
    go_quiet (fail)
    go_wp2
    go_ret
    exact ⟨by rw [HK.out]; rfl, by repeat' (first | assumption | with_reducible exact Below.refl _ _ | with_reducible apply Below.drew | with_reducible apply below_drewN | with_reducible apply below_alloc | with_reducible refine below_set ?_ ?_ _ | (simp only [World.size_alloc, World.heap_drewN]; omega) | (simp; omega))⟩
set_option maxRecDepth 20000 in
theorem contains_head (h : Sp2 w A n c ps) {p : Pr} (h0 : ps[0]? = some p) :
    Calls Tryd.prog 18 #[.slice A n c, .agg #[.string p.1, .string p.2]] w fun e w' => e = .returned (.bool true) ∧ Below w.heap.size w w' := by
  have hb0 : Below w.heap.size w (w.alloc (.cells #[.string p.1, .string p.2] 45)) := by repeat' (first | assumption | with_reducible exact Below.refl _ _ | with_reducible apply Below.drew | with_reducible apply below_drewN | with_reducible apply below_alloc | with_reducible refine below_set ?_ ?_ _ | (simp only [World.size_alloc, World.heap_drewN]; omega) | (simp; omega))
  have HI := hide (index_head (h.on hb0) h0)
  go_enter Tryd.func18, Tryd.ntmps18
  go_wp2_with fail
  refine HI.out.mono ?_
  rintro e w2 ⟨rfl, b2⟩
  go_wp2_with fail
  go_ret
  exact ⟨rfl, below_on hb0 b2⟩
end
theorem glevel_is {k : Nat} (h : k < 21) (w : World) : Calls Tryd.prog 10 #[.int .i64 k] w fun e w' => e = .returned (.tuple #[.int .i64 (lvl k : Nat), .int .i64 0]) ∧ w = w' := by
  have k0 := glevel_ok (k := k) (by omega) rfl w
  have e := lvl_d k
  rw [show (72057594037927936 : Int) - ((72057594037927936 / 2 ^ k : Nat) : Int) = ((lvl k : Nat) : Int) by omega] at k0
  exact k0
theorem count_is {k : Nat} (h : k < 21) (w : World) : Calls Tryd.prog 16 #[.int .i64 1, .int .i64 (lvl k : Nat)] w fun e w' => e = .returned (.tuple #[.int .i64 ((2 ^ k : Nat) : Int), .int .i64 0]) ∧ ∃ q, w' = w.drewN q := by
  have hp : 2 ^ k ≤ 4611686018427387904 := Nat.le_trans (Nat.pow_le_pow_right (by decide) (show k ≤ 20 by omega)) (by decide)
  have hd : 0 < 72057594037927936 / 2 ^ k := Nat.div_pos (Nat.le_trans (Nat.pow_le_pow_right (by decide) (show k ≤ 20 by omega)) (by decide)) (Nat.pow_pos (by decide))
  have k0 := count_ok (n := 1) (th := lvl k) (d := 72057594037927936 / 2 ^ k) (F := 2 ^ k) (by decide) (lvl_d k) hd (lvl_div k h) w
  rw [if_pos hp, if_pos hp] at k0
  exact k0
theorem draw_nat {r : Nat} (h : r < 72057594037927936) : isDraw (r : Int) = true := inR_yes (by omega)
theorem sset_is {k r : Nat} (hk : k < 21) (hr : r < 72057594037927936) (w : World) : Calls Tryd.prog 12 #[.slice none 0 0, .agg #[.int .i64 (lvl k : Nat), .int .i64 r, .bool true, .bool true]] w (SetRet w (prsOf k r) 0) := by
  obtain ⟨s1, s2⟩ := set_is hk hr
  have k0 := sset_ok (w := w) (ps := []) (A := none) (n := 0) (c := 0) (a := lvl k) (b := r) (x := true) (y := true) (Sl.nil _ _ _) (fun _ h => by cases h) rfl (draw_nat (lvl_lt k (by omega))) (draw_nat hr) s1
  rw [show setL [] ((lvl k : Nat), (r : Nat), true, true) 0 = prsOf k r from (if_pos rfl).trans s2] at k0
  exact k0
theorem fit_is {k r : Nat} (hk : k < 21) : Fit (prsOf k r) := by
  obtain ⟨_, _, h3, _, _⟩ := lvl_back k hk
  have e3 := digs_len 14 r
  intro p hp
  rcases List.mem_cons.1 hp with rfl | hp
  · have e1 : (thPr (mkOf k r)).2.size = (thS (digs 14 (lvl k))).length := by rw [← bl_th (k := k) (r := r)]; exact (Array.length_toList).symm
    exact ⟨by show thName.size ≤ _; decide, by omega⟩
  · rw [List.mem_singleton] at hp
    subst hp
    have e1 : (rvPr (mkOf k r)).2.size = (digs 14 r).length := by rw [← bl_rv (k := k) (r := r)]; exact (Array.length_toList).symm
    exact ⟨by show rvName.size ≤ _; decide, by omega⟩
section
variable {A : Option Addr} {c : Nat} {w : World}
theorem write_is {k r : Nat} (hk : k < 21) (h : Sp2 w A 2 c (prsOf k r)) :
    Calls Tryd.prog 13 #[.slice A 2 c] w fun e w' => e = .returned (.tuple #[.string (tx (txTo (prsOf k r) 2)), .int .i64 0]) ∧ Below w.heap.size w w' := by
  obtain ⟨l1, _⟩ := text_len (r := r) hk
  have k0 := write_ok h (fit_is hk) (prErr_is hk) (by omega)
  rw [show wrT (txTo (prsOf k r) 2) = txTo (prsOf k r) 2 from if_neg (by omega), show wrE (txTo (prsOf k r) 2) = 0 from if_neg (by omega)] at k0
  exact k0
theorem sread_is {k r : Nat} (hk : k < 21) (hm : MaxSet w) : Calls Tryd.prog 14 #[.string (tx (txTo (prsOf k r) 2))] w (SetRet w (prsOf k r) 0) := by
  obtain ⟨l1, _⟩ := text_len (r := r) hk
  have k0 := sread_any (l := txTo (prsOf k r) 2) (by omega) (w := w) hm
  rw [(read_is hk).1, (read_is hk).2] at k0
  exact k0
theorem smark_is {k r : Nat} (hk : k < 21) (hr : r < 72057594037927936) (h : Sp2 w A 2 c (prsOf k r)) :
    Calls Tryd.prog 15 #[.slice A 2 c] w fun e w' => e = .returned (.tuple #[.agg #[.int .i64 (lvl k : Nat), .int .i64 r, .bool true, .bool true], .int .i64 0]) ∧ Below w.heap.size w w' := by
  have k0 := smark_ok h (fit_is hk) (prErr_is hk)
  rw [(mark_is hk hr).1, (mark_is hk hr).2] at k0
  exact k0
end
end Go.Proofs.YtkliebhpdcjdgaaDoor
