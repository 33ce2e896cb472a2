/-
  The walk of the law RegsSay, case by case. Conditions: the slices read as lists of numbers.
-/
import Derived.Test.YtkliebhpdcjdgaaRegs2
import Derived.Test.YtkliebhpdcjdgaaDraw
import Derived.Deep.RegionLaw
import Derived.Deep.QuietTactic
import Derived.BigQuiet
namespace Go.Proofs.Ytkliebhpdcjdgaa
open Go.RowKit

theorem noughts_q (v m : Nat) (hv : v ≤ 72057594037927935) (h0 : 0 < m) (hm : m ≤ 1000) (w : World) :
    Calls Try.prog 15 #[.int .i64 v, .int .i64 m] w fun e w' => e = .returned (.int .i64 (57 - (Lib.bitLen (v / m) : Int))) ∧ w' = w :=
  (noughts_any v m hv h0 hm w).mono fun _ _ ⟨h1, h2⟩ => ⟨h1, h2.symm⟩
theorem rregs_is {A : Option Addr} {n c : Nat} {xs : List Int} {w : World} {g : Nat} {t : TypeId} (hg : Blk w g t #[.slice A n c]) (h : Si w A n c xs) {E : Int} (he : rErr n xs = E) :
    Calls Try.prog 11 #[.slice (some ⟨g, 0, none⟩) 1 1] w fun e w' => e = .returned (.int .i64 E) ∧ Below w.heap.size w w' := by
  have k := rregs_one hg h; rw [he] at k; exact k
theorem reg_nil : rErr 0 [] = 7 := by decide
/-- Is none of the first greater than the second? -/
def leTo (xs ys : List Int) : Nat → Bool := okTo fun i => decide (xs.getD i 0 ≤ ys.getD i 0)
theorem fit_same {n : Nat} {xs ys : List Int} (hx : xs.length = n) (hy : ys.length = n) : same (joined n xs ys) ys = leTo xs ys n := by
  cases h : leTo xs ys n
  · obtain ⟨k, hk, hp⟩ := okTo_no n h
    apply same_no
    intro e
    have h1 := maxTo_at (xs := xs) (ys := ys) (k := n) (i := k) (by omega)
    unfold joined at e
    rw [e, if_pos hk, getD_at (show k < ys.length by omega)] at h1
    injection h1 with h1
    rw [decide_eq_false_iff_not] at hp
    rw [Int.max_def] at h1
    split at h1 <;> omega
  · apply same_yes
    apply List.ext_getElem?
    intro i
    by_cases hi : i < n
    · unfold joined
      have hp := okTo_at n h hi
      rw [decide_eq_true_eq] at hp
      rw [maxTo_at (by omega), if_pos hi, getD_at (show i < ys.length by omega), Int.max_eq_right hp]
    · rw [List.getElem?_eq_none (by unfold joined; rw [maxTo_len]; omega), List.getElem?_eq_none (by omega)]
theorem joined_take {n k : Nat} {xs ys : List Int} {x y : Int} (hl : xs.length = n) (hx : xs[k]? = some x) (hy : ys[k]? = some y) : (joined n xs ys).take (k + 1) = (joined n xs ys).take k ++ [max x y] := by
  have hk := (List.getElem?_eq_some_iff.1 hx).1
  rw [List.take_add_one, show (joined n xs ys)[k]? = some (max x y) from by unfold joined; rw [maxTo_at hk, if_pos (by omega), getD_of hx, getD_of hy]]
  rfl
theorem set_here {l : List Int} {k : Nat} {x : Int} (h : l[k]? = some x) : l.set k x = l := by
  apply List.ext_getElem?
  intro m
  rw [List.getElem?_set]
  by_cases e : k = m
  · subst e; rw [if_pos rfl, if_pos (List.getElem?_eq_some_iff.1 h).1, h]
  · rw [if_neg e]
section
variable {A B : Option Addr} {n c m d : Nat} {xs ys : List Int} {w : World} {v : Int}
set_option maxRecDepth 100000 in
set_option maxHeartbeats 6400000 in
theorem law_regs_bad (h : Si w A n c xs) (hk : Si w B m d ys) (he : ¬ rErr n xs = 0) :
    Calls Try.prog 3 #[.slice A n c, .slice B m d, .int .i64 v] w fun e w' => e = .returned (.bool true) ∧ Below w.heap.size w w' := by
  obtain ⟨E, hE⟩ : ∃ E, rErr n xs = E := ⟨_, rfl⟩
  have HJ := hide ((joinErr_1 (m := m) (ys := ys) he).trans hE)
  rw [hE] at he
  have t1 : (E != 0) = true := by simpa using he
  have HE := hide hE
  have H0 := hide he
  clear hE he
  go_enter Try.func3, Try.ntmps3
  go_wp2_with fail
  refine (regPut_bad h HE.out H0.out).mono ?_
  rintro e w1 ⟨rfl, hb1⟩
  go_wp2_with fail
  refine (regJoin_bad (h.on hb1) (hk.on hb1) HJ.out H0.out).mono ?_
  rintro e w2 ⟨rfl, hb2⟩
  have k2 := below_on hb1 hb2
  go_wp2_with fail
  refine (regFit_bad (h.on k2) (hk.on k2) HJ.out H0.out).mono ?_
  rintro e w3 ⟨rfl, hb3⟩
  have k3 := below_on k2 hb3
  go_wp2_with fail
  have bkA := Blk.new w3 22 #[.slice A n c]
  refine (rregs_is bkA (h.on (by repeat' (first | assumption | with_reducible exact Below.refl _ _ | with_reducible apply Below.drew | with_reducible apply below_drewN | with_reducible apply below_alloc | with_reducible refine below_set ?_ ?_ _ | (simp only [World.size_alloc, World.heap_drewN]; omega) | (simp; omega)))) HE.out).mono ?_
  rintro e w4 ⟨rfl, hb4⟩
  have b34 : Below w3.heap.size w3 w4 := below_on (by repeat' (first | assumption | with_reducible exact Below.refl _ _ | with_reducible apply Below.drew | with_reducible apply below_drewN | with_reducible apply below_alloc | with_reducible refine below_set ?_ ?_ _ | (simp only [World.size_alloc, World.heap_drewN]; omega) | (simp; omega))) hb4
  have k4 := below_on k3 b34
  clear bkA
  go_wp2_with fail
  refine (regsCheck_is (h.on k4) HE.out).mono ?_
  rintro e w5 ⟨rfl, hb5⟩
  have k5 := below_on k4 hb5
  go_wp2_with fail
  refine (regsCheck_is (Sl.nil _ _ _) reg_nil).mono ?_
  rintro e w6 ⟨rfl, hb6⟩
  have k6 := below_on k5 hb6
  have b36 := below_on (below_on b34 hb5) hb6
  go_wp2_with fail
  go_ret
  exact ⟨rfl, k6⟩
set_option maxRecDepth 100000 in
set_option maxHeartbeats 6400000 in
theorem law_regs_arg_bad2 (h : Si w A n c xs) (hk : Si w B m d ys) (he : rErr n xs = 0) (hv : ¬ (0 ≤ v ∧ v ≤ 72057594037927935)) (hj : ¬ rErr m ys = 0) :
    Calls Try.prog 3 #[.slice A n c, .slice B m d, .int .i64 v] w fun e w' => e = .returned (.bool true) ∧ Below w.heap.size w w' := by
  obtain ⟨g1, g2⟩ := rErr_zero h.ilen he
  have hn16 : n ≤ 16 := by unfold rLen at g1; omega
  have hn0 : 0 < n := by unfold rLen at g1; omega
  have HL := hide h.ilen
  have hlm := h.len_max
  have hlm2 := hk.len_max
  have HE := hide he
  obtain ⟨E2, hE2⟩ : ∃ E, rErr m ys = E := ⟨_, rfl⟩
  have HJ := hide ((joinErr_2 he hj).trans hE2)
  rw [hE2] at hj
  have t2 : (E2 != 0) = true := by simpa using hj
  have t3 : (E2 == 0) = false := by simpa using hj
  have HE2 := hide hE2
  have H02 := hide hj
  clear hE2 hj
  have hr := inR_no hv
  have CP := hide (fun w h => regPut_arg (w := w) (A := A) (c := c) h he hv)
  clear he g1 hv
  go_enter Try.func3, Try.ntmps3
  go_wp2_with fail
  refine (CP.out _ h).mono ?_
  rintro e w1 ⟨rfl, hb1⟩
  go_wp2_with fail
  refine (regJoin_bad (h.on hb1) (hk.on hb1) HJ.out H02.out).mono ?_
  rintro e w2 ⟨rfl, hb2⟩
  have k2 := below_on hb1 hb2
  go_wp2_with fail
  refine (regFit_bad (h.on k2) (hk.on k2) HJ.out H02.out).mono ?_
  rintro e w3 ⟨rfl, hb3⟩
  have k3 := below_on k2 hb3
  go_wp2_with fail
  have bkA := Blk.new w3 22 #[.slice A n c]
  refine (rregs_is bkA (h.on (by repeat' (first | assumption | with_reducible exact Below.refl _ _ | with_reducible apply Below.drew | with_reducible apply below_drewN | with_reducible apply below_alloc | with_reducible refine below_set ?_ ?_ _ | (simp only [World.size_alloc, World.heap_drewN]; omega) | (simp; omega)))) HE.out).mono ?_
  rintro e w4 ⟨rfl, hb4⟩
  have b34 : Below w3.heap.size w3 w4 := below_on (by repeat' (first | assumption | with_reducible exact Below.refl _ _ | with_reducible apply Below.drew | with_reducible apply below_drewN | with_reducible apply below_alloc | with_reducible refine below_set ?_ ?_ _ | (simp only [World.size_alloc, World.heap_drewN]; omega) | (simp; omega))) hb4
  have k4 := below_on k3 b34
  clear bkA
  go_wp2_with fail
  refine (regsCheck_is (h.on k4) HE.out).mono ?_
  rintro e w5 ⟨rfl, hb5⟩
  have k5 := below_on k4 hb5
  go_wp2_with fail
  refine (regsCheck_is (Sl.nil _ _ _) reg_nil).mono ?_
  rintro e w6 ⟨rfl, hb6⟩
  have k6 := below_on k5 hb6
  have b36 := below_on (below_on b34 hb5) hb6
  go_wp2_with fail
  refine (draw_any v _).mono ?_
  rintro e w' ⟨rfl, rfl⟩
  rw [hr]
  go_wp2_with fail
  have k8 := k6
  have b28 := below_on hb3 b36
  obtain ⟨w8, hw8⟩ : ∃ w8, w6 = w8 := ⟨_, rfl⟩
  rw [hw8] at k8 b28 ⊢
  clear hw8 b36 k6
  have bkB := Blk.new w8 22 #[.slice B m d]
  refine (rregs_is bkB (hk.on (by repeat' (first | assumption | with_reducible exact Below.refl _ _ | with_reducible apply Below.drew | with_reducible apply below_drewN | with_reducible apply below_alloc | with_reducible refine below_set ?_ ?_ _ | (simp only [World.size_alloc, World.heap_drewN]; omega) | (simp; omega)))) HE2.out).mono ?_
  rintro e w9 ⟨rfl, hb9⟩
  have b89 : Below w8.heap.size w8 w9 := below_on (by repeat' (first | assumption | with_reducible exact Below.refl _ _ | with_reducible apply Below.drew | with_reducible apply below_drewN | with_reducible apply below_alloc | with_reducible refine below_set ?_ ?_ _ | (simp only [World.size_alloc, World.heap_drewN]; omega) | (simp; omega))) hb9
  have k9 := below_on k8 b89
  clear bkB
  go_wp2_with fail
  go_ret
  exact ⟨rfl, k9⟩
set_option maxRecDepth 100000 in
set_option maxHeartbeats 6400000 in
theorem law_regs_arg_bad3 (h : Si w A n c xs) (hk : Si w B m d ys) (he : rErr n xs = 0) (hv : ¬ (0 ≤ v ∧ v ≤ 72057594037927935)) (hj : rErr m ys = 0) (hj2 : ¬ n = m) :
    Calls Try.prog 3 #[.slice A n c, .slice B m d, .int .i64 v] w fun e w' => e = .returned (.bool true) ∧ Below w.heap.size w w' := by
  obtain ⟨g1, g2⟩ := rErr_zero h.ilen he
  have hn16 : n ≤ 16 := by unfold rLen at g1; omega
  have hn0 : 0 < n := by unfold rLen at g1; omega
  have HL := hide h.ilen
  have hlm := h.len_max
  have hlm2 := hk.len_max
  have HE := hide he
  have HJ := hide (joinErr_3 he hj hj2)
  have HE2 := hide hj
  have tmn : ((n : Int) != (m : Int)) = true := by simp; omega
  have H02 := hide (show ¬ (3 : Int) = 0 by decide)
  clear hj hj2
  have hr := inR_no hv
  have CP := hide (fun w h => regPut_arg (w := w) (A := A) (c := c) h he hv)
  clear he g1 hv
  go_enter Try.func3, Try.ntmps3
  go_wp2_with fail
  refine (CP.out _ h).mono ?_
  rintro e w1 ⟨rfl, hb1⟩
  go_wp2_with fail
  refine (regJoin_bad (h.on hb1) (hk.on hb1) HJ.out H02.out).mono ?_
  rintro e w2 ⟨rfl, hb2⟩
  have k2 := below_on hb1 hb2
  go_wp2_with fail
  refine (regFit_bad (h.on k2) (hk.on k2) HJ.out H02.out).mono ?_
  rintro e w3 ⟨rfl, hb3⟩
  have k3 := below_on k2 hb3
  go_wp2_with fail
  have bkA := Blk.new w3 22 #[.slice A n c]
  refine (rregs_is bkA (h.on (by repeat' (first | assumption | with_reducible exact Below.refl _ _ | with_reducible apply Below.drew | with_reducible apply below_drewN | with_reducible apply below_alloc | with_reducible refine below_set ?_ ?_ _ | (simp only [World.size_alloc, World.heap_drewN]; omega) | (simp; omega)))) HE.out).mono ?_
  rintro e w4 ⟨rfl, hb4⟩
  have b34 : Below w3.heap.size w3 w4 := below_on (by repeat' (first | assumption | with_reducible exact Below.refl _ _ | with_reducible apply Below.drew | with_reducible apply below_drewN | with_reducible apply below_alloc | with_reducible refine below_set ?_ ?_ _ | (simp only [World.size_alloc, World.heap_drewN]; omega) | (simp; omega))) hb4
  have k4 := below_on k3 b34
  clear bkA
  go_wp2_with fail
  refine (regsCheck_is (h.on k4) HE.out).mono ?_
  rintro e w5 ⟨rfl, hb5⟩
  have k5 := below_on k4 hb5
  go_wp2_with fail
  refine (regsCheck_is (Sl.nil _ _ _) reg_nil).mono ?_
  rintro e w6 ⟨rfl, hb6⟩
  have k6 := below_on k5 hb6
  have b36 := below_on (below_on b34 hb5) hb6
  go_wp2_with fail
  refine (draw_any v _).mono ?_
  rintro e w' ⟨rfl, rfl⟩
  rw [hr]
  go_wp2_with fail
  have k8 := k6
  have b28 := below_on hb3 b36
  obtain ⟨w8, hw8⟩ : ∃ w8, w6 = w8 := ⟨_, rfl⟩
  rw [hw8] at k8 b28 ⊢
  clear hw8 b36 k6
  have bkB := Blk.new w8 22 #[.slice B m d]
  refine (rregs_is bkB (hk.on (by repeat' (first | assumption | with_reducible exact Below.refl _ _ | with_reducible apply Below.drew | with_reducible apply below_drewN | with_reducible apply below_alloc | with_reducible refine below_set ?_ ?_ _ | (simp only [World.size_alloc, World.heap_drewN]; omega) | (simp; omega)))) HE2.out).mono ?_
  rintro e w9 ⟨rfl, hb9⟩
  have b89 : Below w8.heap.size w8 w9 := below_on (by repeat' (first | assumption | with_reducible exact Below.refl _ _ | with_reducible apply Below.drew | with_reducible apply below_drewN | with_reducible apply below_alloc | with_reducible refine below_set ?_ ?_ _ | (simp only [World.size_alloc, World.heap_drewN]; omega) | (simp; omega))) hb9
  have k9 := below_on k8 b89
  clear bkB
  go_wp2_with fail
  go_ret
  exact ⟨rfl, k9⟩
set_option maxRecDepth 100000 in
set_option maxHeartbeats 6400000 in
theorem law_regs_arg_ok (h : Si w A n c xs) (hk : Si w B m d ys) (he : rErr n xs = 0) (hv : ¬ (0 ≤ v ∧ v ≤ 72057594037927935)) (hj : rErr m ys = 0) (hj2 : n = m) :
    Calls Try.prog 3 #[.slice A n c, .slice B m d, .int .i64 v] w fun e w' => e = .returned (.bool true) ∧ Below w.heap.size w w' := by
  obtain ⟨g1, g2⟩ := rErr_zero h.ilen he
  have hn16 : n ≤ 16 := by unfold rLen at g1; omega
  have hn0 : 0 < n := by unfold rLen at g1; omega
  have HL := hide h.ilen
  have hlm := h.len_max
  have hlm2 := hk.len_max
  have HE := hide he
  subst hj2
  have HE2 := hide hj
  have HL2 := hide hk.ilen
  clear hj
  have hr := inR_no hv
  have CP := hide (fun w h => regPut_arg (w := w) (A := A) (c := c) h he hv)
  clear he g1 hv
  go_enter Try.func3, Try.ntmps3
  go_wp2_with fail
  refine (CP.out _ h).mono ?_
  rintro e w1 ⟨rfl, hb1⟩
  go_wp2_with fail
  refine (regJoin_ok (h.on hb1) (hk.on hb1) HE.out HE2.out).mono ?_
  rintro e w2 ⟨AJ, cJ, rfl, oJ, hb2⟩
  have sJ := oJ.sl
  clear oJ
  have k2 := below_on hb1 hb2
  go_wp2_with fail
  have FS := hide (fit_same HL.out HL2.out)
  refine (regFit_ok (h.on k2) (hk.on k2) HE.out HE2.out).mono ?_
  rintro e w3 ⟨rfl, hb3⟩
  rw [FS.out]
  have k3 := below_on k2 hb3
  obtain ⟨FB, hFB⟩ : ∃ b, leTo xs ys n = b := ⟨_, rfl⟩
  rw [hFB]
  have HFB := hide hFB
  clear hFB FS
  go_wp2_with fail
  have bkA := Blk.new w3 22 #[.slice A n c]
  refine (rregs_is bkA (h.on (by repeat' (first | assumption | with_reducible exact Below.refl _ _ | with_reducible apply Below.drew | with_reducible apply below_drewN | with_reducible apply below_alloc | with_reducible refine below_set ?_ ?_ _ | (simp only [World.size_alloc, World.heap_drewN]; omega) | (simp; omega)))) HE.out).mono ?_
  rintro e w4 ⟨rfl, hb4⟩
  have b34 : Below w3.heap.size w3 w4 := below_on (by repeat' (first | assumption | with_reducible exact Below.refl _ _ | with_reducible apply Below.drew | with_reducible apply below_drewN | with_reducible apply below_alloc | with_reducible refine below_set ?_ ?_ _ | (simp only [World.size_alloc, World.heap_drewN]; omega) | (simp; omega))) hb4
  have k4 := below_on k3 b34
  clear bkA
  go_wp2_with fail
  refine (regsCheck_is (h.on k4) HE.out).mono ?_
  rintro e w5 ⟨rfl, hb5⟩
  have k5 := below_on k4 hb5
  go_wp2_with fail
  refine (regsCheck_is (Sl.nil _ _ _) reg_nil).mono ?_
  rintro e w6 ⟨rfl, hb6⟩
  have k6 := below_on k5 hb6
  have b36 := below_on (below_on b34 hb5) hb6
  go_wp2_with fail
  refine (draw_any v _).mono ?_
  rintro e w' ⟨rfl, rfl⟩
  rw [hr]
  go_wp2_with fail
  have k8 := k6
  have b28 := below_on hb3 b36
  obtain ⟨w8, hw8⟩ : ∃ w8, w6 = w8 := ⟨_, rfl⟩
  rw [hw8] at k8 b28 ⊢
  clear hw8 b36 k6
  have bkB := Blk.new w8 22 #[.slice B n d]
  refine (rregs_is bkB (hk.on (by repeat' (first | assumption | with_reducible exact Below.refl _ _ | with_reducible apply Below.drew | with_reducible apply below_drewN | with_reducible apply below_alloc | with_reducible refine below_set ?_ ?_ _ | (simp only [World.size_alloc, World.heap_drewN]; omega) | (simp; omega)))) HE2.out).mono ?_
  rintro e w9 ⟨rfl, hb9⟩
  have b89 : Below w8.heap.size w8 w9 := below_on (by repeat' (first | assumption | with_reducible exact Below.refl _ _ | with_reducible apply Below.drew | with_reducible apply below_drewN | with_reducible apply below_alloc | with_reducible refine below_set ?_ ?_ _ | (simp only [World.size_alloc, World.heap_drewN]; omega) | (simp; omega))) hb9
  have k9 := below_on k8 b89
  clear bkB
  go_wp2_with fail
  have b29 := below_on b28 b89
  clear b89 b28 k8 k5 k4 k3 k2 hb9 hb4 hb5 hb6 b34
  have h9 := h.on k9
  have hk9 := hk.on k9
  go_loopw [16, 17, 150] (fun vo vf vi wr => ∃ (j : Nat) (Ab : Option Addr) (cb : Nat), j ≤ n ∧ vi = .int .i64 j ∧ vo = .slice Ab j cb ∧ vf = .bool (leTo xs ys j) ∧ Own wr w9.heap.size 3 1 Ab j cb (ints ((joined n xs ys).take j)) ∧ Below w9.heap.size w9 wr) (fun _ _ i _ => n - (intOf i).toNat)
  case atStart => exact ⟨0, none, 0, Nat.zero_le _, rfl, rfl, rfl, Own.nil _ _ _ _, Below.refl _ _⟩
  case round =>
    obtain ⟨j, Ab, cb, hj, rfl, rfl, rfl, own, hb⟩ := hrel
    have zr := hb.size
    by_cases hlt : j < n
    · obtain ⟨ad, xj, rfl, hbk, hxj, hcx9⟩ := h9.icell hlt
      obtain ⟨ae, yj, rfl, hbe, hyj, hcy9⟩ := hk9.icell hlt
      have hcxj := (hb.cell (p := ad.add j) (by rw [add_block]; exact hbk)).trans hcx9
      have hcyj := (hb.cell (p := ae.add j) (by rw [add_block]; exact hbe)).trans hcy9
      have HT := hide (joined_take HL.out hxj hyj)
      have HF := hide (show leTo xs ys (j + 1) = (leTo xs ys j && decide (xj ≤ yj)) by unfold leTo; rw [okTo, getD_of hxj, getD_of hyj])
      clear hxj hyj
      obtain ⟨F, hF⟩ : ∃ F, leTo xs ys j = F := ⟨_, rfl⟩
      rw [hF] at HF ⊢
      clear hF
      have HX4 := hide (fun (W : World) (hb4 : Below w9.heap.size w9 W) => (hb4.cell (p := ad.add j) (by rw [add_block]; exact hbk)).trans hcx9)
      have HY4 := hide (fun (W : World) (hb4 : Below w9.heap.size w9 W) => (hb4.cell (p := ae.add j) (by rw [add_block]; exact hbe)).trans hcy9)
      clear hcx9 hcy9
      go_wp2_with fail
      go_region_law (refine step_append_one T_int (base := w9.heap.size) (A := Ab) (xs := ints ((joined n xs ys).take j)) (v := .int .i64 (max xj yj)) (by rfl) (.tmp 153) (.tmp 163) (by rfl) (by rfl) (by rfl) ?_ ?_ rfl ?_ ?_ ?_ ?_; (first | with_reducible exact (own.alloc _).drew | with_reducible exact own.drew.alloc _ | with_reducible exact own.alloc _ | with_reducible exact own.drew); (first | with_reducible exact at_new _ _ | with_reducible exact at_newd _ _); (simp only [maxLen]; omega); omega; (simp only [World.drew, World.size_alloc]; omega); intro A4 c4 w4 ap; have own4 := ap.own; have hb4 : Below w9.heap.size w9 w4 := hb.trans (Below.trans (by repeat' (first | assumption | with_reducible exact Below.refl _ _ | with_reducible apply Below.drew | (with_reducible refine Below.alloc ?_ ?_ _) | (simp only [World.size_alloc, World.drew]; omega) | (simp; omega))) ap.below))
      all_goals
        have cx4 := HX4.out w4 hb4
        have cy4 := HY4.out w4 hb4
        have cx5 := HX4.out w4.drew (below_drewN hb4 1)
        have cy5 := HY4.out w4.drew (below_drewN hb4 1)
        rw [show ints ((joined n xs ys).take j) ++ [Value.int .i64 (max xj yj)] = ints ((joined n xs ys).take (j + 1)) from by rw [HT.out, ints_append]; rfl] at own4
        clear ap own hcxj hcyj
        go_wp2_with fail
        go_simp
        cases F
        · have HN := hide (show leTo xs ys (j + 1) = false by rw [HF.out]; rfl)
          go_quiet (fail)
          go_wp2_with fail
          go_roundw
          case rel => exact ⟨j + 1, A4, c4, by omega, by go_num, rfl, by rw [HN.out], own4.drewN _, below_drewN hb4 _⟩
          case measure => simp [intOf]; omega
        · by_cases hxy : xj ≤ yj
          · have HN := hide (show leTo xs ys (j + 1) = true by rw [HF.out]; simp [hxy])
            go_quiet (fail)
            go_wp2_with fail
            go_roundw
            case rel => exact ⟨j + 1, A4, c4, by omega, by go_num, rfl, by rw [HN.out], own4.drewN _, below_drewN hb4 _⟩
            case measure => simp [intOf]; omega
          · have HN := hide (show leTo xs ys (j + 1) = false by rw [HF.out]; simp [hxy])
            go_quiet (fail)
            go_wp2_with fail
            go_roundw
            case rel => exact ⟨j + 1, A4, c4, by omega, by go_num, rfl, by rw [HN.out], own4.drewN _, below_drewN hb4 _⟩
            case measure => simp [intOf]; omega
    · obtain rfl : j = n := by omega
      rw [List.take_of_length_le (by unfold joined; rw [maxTo_len, HL.out]; exact Nat.le_refl _)] at own
      have hFB := HFB.out
      rw [hFB]
      go_wp2_with fail
      refine (equal_yes _ _ _ _ _ _ _ (sJ.on (below_on b29 hb)) own.sl).mono ?_
      rintro e w10 ⟨rfl, q10, rfl⟩
      have k10 := below_drewN (below_on k9 hb) q10
      cases FB
      all_goals
        go_wp2_with fail
        go_ret
        exact ⟨rfl, k10⟩
set_option maxRecDepth 100000 in
set_option maxHeartbeats 6400000 in
theorem law_regs_ok_bad2 (h : Si w A n c xs) (hk : Si w B m d ys) (he : rErr n xs = 0) (hv : 0 ≤ v ∧ v ≤ 72057594037927935) (hj : ¬ rErr m ys = 0) :
    Calls Try.prog 3 #[.slice A n c, .slice B m d, .int .i64 v] w fun e w' => e = .returned (.bool true) ∧ Below w.heap.size w w' := by
  obtain ⟨g1, g2⟩ := rErr_zero h.ilen he
  have hn16 : n ≤ 16 := by unfold rLen at g1; omega
  have hn0 : 0 < n := by unfold rLen at g1; omega
  have HL := hide h.ilen
  have hlm := h.len_max
  have hlm2 := hk.len_max
  have HE := hide he
  obtain ⟨E2, hE2⟩ : ∃ E, rErr m ys = E := ⟨_, rfl⟩
  have HJ := hide ((joinErr_2 he hj).trans hE2)
  rw [hE2] at hj
  have t2 : (E2 != 0) = true := by simpa using hj
  have t3 : (E2 == 0) = false := by simpa using hj
  have HE2 := hide hE2
  have H02 := hide hj
  clear hE2 hj
  have hr := inR_yes hv
  obtain ⟨v1, v2⟩ := hv
  obtain ⟨vn, rfl⟩ := Int.eq_ofNat_of_zero_le v1
  have hvn : vn ≤ 72057594037927935 := by omega
  have CP := hide (fun w h => regPut_ok (w := w) (A := A) (c := c) h he hvn)
  have hkn := Nat.mod_lt vn hn0
  have hx : xs[vn % n]? = some (xs.getD (vn % n) 0) := getD_at (by rw [HL.out]; exact hkn)
  have hxb := g2 _ (List.mem_of_getElem? hx)
  have HP := hide (show regPut n xs vn = xs.set (vn % n) (max (xs.getD (vn % n) 0) (57 - (Lib.bitLen (vn / n) : Int))) from rfl)
  have q1 : (vn : Int) % (n : Int) = ((vn % n : Nat) : Int) := rfl
  have CN := hide (fun w => noughts_q vn n hvn hn0 (by omega) w)
  have hbl : Lib.bitLen (vn / n) ≤ 56 := Lib.bitLen_le _ 56 (by decide) (by have := Nat.div_le_self vn n; omega)
  obtain ⟨k, hk0⟩ : ∃ k, vn % n = k := ⟨_, rfl⟩
  obtain ⟨b, hb0⟩ : ∃ b, Lib.bitLen (vn / n) = b := ⟨_, rfl⟩
  rw [hk0] at hkn hx hxb HP q1
  rw [hb0] at HP CN hbl
  clear hk0 hb0
  obtain ⟨x, hxe⟩ : ∃ x, xs.getD k 0 = x := ⟨_, rfl⟩
  rw [hxe] at hx hxb HP
  obtain ⟨x1, x2⟩ := hxb
  have HX := hide hx
  clear hxe hx
  clear he g1
  go_enter Try.func3, Try.ntmps3
  go_wp2_with fail
  refine (CP.out _ h).mono ?_
  rintro e w1 ⟨AX, cX, rfl, oX, hb1⟩
  have sX := oX.sl
  clear oX
  go_wp2_with fail
  refine (regJoin_bad (h.on hb1) (hk.on hb1) HJ.out H02.out).mono ?_
  rintro e w2 ⟨rfl, hb2⟩
  have k2 := below_on hb1 hb2
  go_wp2_with fail
  refine (regFit_bad (h.on k2) (hk.on k2) HJ.out H02.out).mono ?_
  rintro e w3 ⟨rfl, hb3⟩
  have k3 := below_on k2 hb3
  go_wp2_with fail
  have bkA := Blk.new w3 22 #[.slice A n c]
  refine (rregs_is bkA (h.on (by repeat' (first | assumption | with_reducible exact Below.refl _ _ | with_reducible apply Below.drew | with_reducible apply below_drewN | with_reducible apply below_alloc | with_reducible refine below_set ?_ ?_ _ | (simp only [World.size_alloc, World.heap_drewN]; omega) | (simp; omega)))) HE.out).mono ?_
  rintro e w4 ⟨rfl, hb4⟩
  have b34 : Below w3.heap.size w3 w4 := below_on (by repeat' (first | assumption | with_reducible exact Below.refl _ _ | with_reducible apply Below.drew | with_reducible apply below_drewN | with_reducible apply below_alloc | with_reducible refine below_set ?_ ?_ _ | (simp only [World.size_alloc, World.heap_drewN]; omega) | (simp; omega))) hb4
  have k4 := below_on k3 b34
  clear bkA
  go_wp2_with fail
  refine (regsCheck_is (h.on k4) HE.out).mono ?_
  rintro e w5 ⟨rfl, hb5⟩
  have k5 := below_on k4 hb5
  go_wp2_with fail
  refine (regsCheck_is (Sl.nil _ _ _) reg_nil).mono ?_
  rintro e w6 ⟨rfl, hb6⟩
  have k6 := below_on k5 hb6
  have b36 := below_on (below_on b34 hb5) hb6
  go_wp2_with fail
  refine (draw_any (vn : Int) _).mono ?_
  rintro e w' ⟨rfl, rfl⟩
  rw [hr]
  go_wp2_with fail
  refine (clone_ints A n c xs w6 (h.on k6) (by omega)).mono ?_
  rintro e w7 ⟨v7, rfl, hb7, A7, c7, rfl, own7⟩
  have k7 := below_on k6 hb7
  have b37 := below_on b36 hb7
  obtain ⟨g7, rfl, hg1, hg2⟩ := own7.addr hn0
  have hcx := own7.cell (j := k) (u := .int .i64 x) (by rw [ints_getElem?, HX.out]; rfl)
  have hfx := own7.free k
  have zw := k6.size
  have zw3 := b36.size
  have k7d := fun q => below_drewN k7 q
  by_cases hls : x < 57 - (b : Int)
  case' pos =>
    have HP2 := hide (show regPut n xs vn = xs.set k (57 - (b : Int)) by rw [HP.out, Int.max_eq_right (by omega)])
    go_wp2_with fail
    go_quiet ((go_at_call 15; exact Calls.quiet_of_same (CN.out _)))
    go_wp2_with (first | (go_at_call 15; refine (CN.out _).mono ?_; rintro e w' ⟨rfl, rfl⟩))
    refine (equal_yes AX _ n cX c7 (xs.set k (57 - (b : Int))) _ ?_ ?_).mono ?_
    · rw [← HP2.out]; exact sX.on (below_set (below_drewN (below_on (below_on hb2 hb3) b37) _) (Nat.le_trans (below_on (below_on hb2 hb3) b36).size hg1) _)
    · have o7 := ((own7.drewN nq).set k (.int .i64 (57 - (b : Int)))).sl; rw [← ints_set] at o7; exact o7
    rintro e w8 ⟨rfl, q8, rfl⟩
    have k8 := fun q => below_drewN (below_set (k7d q) (show w.heap.size ≤ (⟨g7, k, none⟩ : Addr).block from Nat.le_trans zw hg1) (.int .i64 (57 - (b : Int)))) q8
    have b28 := fun q => below_drewN (below_set (below_drewN (below_on hb3 b37) q) (show w2.heap.size ≤ (⟨g7, k, none⟩ : Addr).block from Nat.le_trans (below_on hb3 b36).size hg1) (.int .i64 (57 - (b : Int)))) q8
    have k8 := k8 nq
    have b28 := b28 nq
    obtain ⟨w8, hw8⟩ : ∃ w8, ((w7.drewN nq).setCell ⟨g7, k, none⟩ (.int .i64 (57 - (b : Int)))).drewN q8 = w8 := ⟨_, rfl⟩
    rw [hw8] at k8 b28 ⊢
    clear hw8 hls
    go_wp2_with fail
  case' neg =>
    have HP2 := hide (show regPut n xs vn = xs by rw [HP.out, Int.max_eq_left (by omega), set_here HX.out])
    go_wp2_with fail
    go_quiet ((go_at_call 15; exact Calls.quiet_of_same (CN.out _)))
    go_wp2_with fail
    refine (equal_yes AX _ n cX c7 xs _ ?_ ?_).mono ?_
    · have s0 := sX; rw [HP2.out] at s0; exact s0.on (below_drewN (below_on (below_on hb2 hb3) b37) _)
    · exact (own7.drewN _).sl
    rintro e w8 ⟨rfl, q8, rfl⟩
    have k8 := below_drewN (k7d nq) q8
    have b28 := below_drewN (below_drewN (below_on hb3 b37) nq) q8
    obtain ⟨w8, hw8⟩ : ∃ w8, (w7.drewN nq).drewN q8 = w8 := ⟨_, rfl⟩
    rw [hw8] at k8 b28 ⊢
    clear hw8 hls
    go_wp2_with fail
  all_goals
    clear own7 hcx hfx b37 k7 k7d b36 k6 hb7
    have bkB := Blk.new w8 22 #[.slice B m d]
    refine (rregs_is bkB (hk.on (by repeat' (first | assumption | with_reducible exact Below.refl _ _ | with_reducible apply Below.drew | with_reducible apply below_drewN | with_reducible apply below_alloc | with_reducible refine below_set ?_ ?_ _ | (simp only [World.size_alloc, World.heap_drewN]; omega) | (simp; omega)))) HE2.out).mono ?_
    rintro e w9 ⟨rfl, hb9⟩
    have b89 : Below w8.heap.size w8 w9 := below_on (by repeat' (first | assumption | with_reducible exact Below.refl _ _ | with_reducible apply Below.drew | with_reducible apply below_drewN | with_reducible apply below_alloc | with_reducible refine below_set ?_ ?_ _ | (simp only [World.size_alloc, World.heap_drewN]; omega) | (simp; omega))) hb9
    have k9 := below_on k8 b89
    clear bkB
    go_wp2_with fail
    go_ret
    exact ⟨rfl, k9⟩
set_option maxRecDepth 100000 in
set_option maxHeartbeats 6400000 in
theorem law_regs_ok_bad3 (h : Si w A n c xs) (hk : Si w B m d ys) (he : rErr n xs = 0) (hv : 0 ≤ v ∧ v ≤ 72057594037927935) (hj : rErr m ys = 0) (hj2 : ¬ n = m) :
    Calls Try.prog 3 #[.slice A n c, .slice B m d, .int .i64 v] w fun e w' => e = .returned (.bool true) ∧ Below w.heap.size w w' := by
  obtain ⟨g1, g2⟩ := rErr_zero h.ilen he
  have hn16 : n ≤ 16 := by unfold rLen at g1; omega
  have hn0 : 0 < n := by unfold rLen at g1; omega
  have HL := hide h.ilen
  have hlm := h.len_max
  have hlm2 := hk.len_max
  have HE := hide he
  have HJ := hide (joinErr_3 he hj hj2)
  have HE2 := hide hj
  have tmn : ((n : Int) != (m : Int)) = true := by simp; omega
  have H02 := hide (show ¬ (3 : Int) = 0 by decide)
  clear hj hj2
  have hr := inR_yes hv
  obtain ⟨v1, v2⟩ := hv
  obtain ⟨vn, rfl⟩ := Int.eq_ofNat_of_zero_le v1
  have hvn : vn ≤ 72057594037927935 := by omega
  have CP := hide (fun w h => regPut_ok (w := w) (A := A) (c := c) h he hvn)
  have hkn := Nat.mod_lt vn hn0
  have hx : xs[vn % n]? = some (xs.getD (vn % n) 0) := getD_at (by rw [HL.out]; exact hkn)
  have hxb := g2 _ (List.mem_of_getElem? hx)
  have HP := hide (show regPut n xs vn = xs.set (vn % n) (max (xs.getD (vn % n) 0) (57 - (Lib.bitLen (vn / n) : Int))) from rfl)
  have q1 : (vn : Int) % (n : Int) = ((vn % n : Nat) : Int) := rfl
  have CN := hide (fun w => noughts_q vn n hvn hn0 (by omega) w)
  have hbl : Lib.bitLen (vn / n) ≤ 56 := Lib.bitLen_le _ 56 (by decide) (by have := Nat.div_le_self vn n; omega)
  obtain ⟨k, hk0⟩ : ∃ k, vn % n = k := ⟨_, rfl⟩
  obtain ⟨b, hb0⟩ : ∃ b, Lib.bitLen (vn / n) = b := ⟨_, rfl⟩
  rw [hk0] at hkn hx hxb HP q1
  rw [hb0] at HP CN hbl
  clear hk0 hb0
  obtain ⟨x, hxe⟩ : ∃ x, xs.getD k 0 = x := ⟨_, rfl⟩
  rw [hxe] at hx hxb HP
  obtain ⟨x1, x2⟩ := hxb
  have HX := hide hx
  clear hxe hx
  clear he g1
  go_enter Try.func3, Try.ntmps3
  go_wp2_with fail
  refine (CP.out _ h).mono ?_
  rintro e w1 ⟨AX, cX, rfl, oX, hb1⟩
  have sX := oX.sl
  clear oX
  go_wp2_with fail
  refine (regJoin_bad (h.on hb1) (hk.on hb1) HJ.out H02.out).mono ?_
  rintro e w2 ⟨rfl, hb2⟩
  have k2 := below_on hb1 hb2
  go_wp2_with fail
  refine (regFit_bad (h.on k2) (hk.on k2) HJ.out H02.out).mono ?_
  rintro e w3 ⟨rfl, hb3⟩
  have k3 := below_on k2 hb3
  go_wp2_with fail
  have bkA := Blk.new w3 22 #[.slice A n c]
  refine (rregs_is bkA (h.on (by repeat' (first | assumption | with_reducible exact Below.refl _ _ | with_reducible apply Below.drew | with_reducible apply below_drewN | with_reducible apply below_alloc | with_reducible refine below_set ?_ ?_ _ | (simp only [World.size_alloc, World.heap_drewN]; omega) | (simp; omega)))) HE.out).mono ?_
  rintro e w4 ⟨rfl, hb4⟩
  have b34 : Below w3.heap.size w3 w4 := below_on (by repeat' (first | assumption | with_reducible exact Below.refl _ _ | with_reducible apply Below.drew | with_reducible apply below_drewN | with_reducible apply below_alloc | with_reducible refine below_set ?_ ?_ _ | (simp only [World.size_alloc, World.heap_drewN]; omega) | (simp; omega))) hb4
  have k4 := below_on k3 b34
  clear bkA
  go_wp2_with fail
  refine (regsCheck_is (h.on k4) HE.out).mono ?_
  rintro e w5 ⟨rfl, hb5⟩
  have k5 := below_on k4 hb5
  go_wp2_with fail
  refine (regsCheck_is (Sl.nil _ _ _) reg_nil).mono ?_
  rintro e w6 ⟨rfl, hb6⟩
  have k6 := below_on k5 hb6
  have b36 := below_on (below_on b34 hb5) hb6
  go_wp2_with fail
  refine (draw_any (vn : Int) _).mono ?_
  rintro e w' ⟨rfl, rfl⟩
  rw [hr]
  go_wp2_with fail
  refine (clone_ints A n c xs w6 (h.on k6) (by omega)).mono ?_
  rintro e w7 ⟨v7, rfl, hb7, A7, c7, rfl, own7⟩
  have k7 := below_on k6 hb7
  have b37 := below_on b36 hb7
  obtain ⟨g7, rfl, hg1, hg2⟩ := own7.addr hn0
  have hcx := own7.cell (j := k) (u := .int .i64 x) (by rw [ints_getElem?, HX.out]; rfl)
  have hfx := own7.free k
  have zw := k6.size
  have zw3 := b36.size
  have k7d := fun q => below_drewN k7 q
  by_cases hls : x < 57 - (b : Int)
  case' pos =>
    have HP2 := hide (show regPut n xs vn = xs.set k (57 - (b : Int)) by rw [HP.out, Int.max_eq_right (by omega)])
    go_wp2_with fail
    go_quiet ((go_at_call 15; exact Calls.quiet_of_same (CN.out _)))
    go_wp2_with (first | (go_at_call 15; refine (CN.out _).mono ?_; rintro e w' ⟨rfl, rfl⟩))
    refine (equal_yes AX _ n cX c7 (xs.set k (57 - (b : Int))) _ ?_ ?_).mono ?_
    · rw [← HP2.out]; exact sX.on (below_set (below_drewN (below_on (below_on hb2 hb3) b37) _) (Nat.le_trans (below_on (below_on hb2 hb3) b36).size hg1) _)
    · have o7 := ((own7.drewN nq).set k (.int .i64 (57 - (b : Int)))).sl; rw [← ints_set] at o7; exact o7
    rintro e w8 ⟨rfl, q8, rfl⟩
    have k8 := fun q => below_drewN (below_set (k7d q) (show w.heap.size ≤ (⟨g7, k, none⟩ : Addr).block from Nat.le_trans zw hg1) (.int .i64 (57 - (b : Int)))) q8
    have b28 := fun q => below_drewN (below_set (below_drewN (below_on hb3 b37) q) (show w2.heap.size ≤ (⟨g7, k, none⟩ : Addr).block from Nat.le_trans (below_on hb3 b36).size hg1) (.int .i64 (57 - (b : Int)))) q8
    have k8 := k8 nq
    have b28 := b28 nq
    obtain ⟨w8, hw8⟩ : ∃ w8, ((w7.drewN nq).setCell ⟨g7, k, none⟩ (.int .i64 (57 - (b : Int)))).drewN q8 = w8 := ⟨_, rfl⟩
    rw [hw8] at k8 b28 ⊢
    clear hw8 hls
    go_wp2_with fail
  case' neg =>
    have HP2 := hide (show regPut n xs vn = xs by rw [HP.out, Int.max_eq_left (by omega), set_here HX.out])
    go_wp2_with fail
    go_quiet ((go_at_call 15; exact Calls.quiet_of_same (CN.out _)))
    go_wp2_with fail
    refine (equal_yes AX _ n cX c7 xs _ ?_ ?_).mono ?_
    · have s0 := sX; rw [HP2.out] at s0; exact s0.on (below_drewN (below_on (below_on hb2 hb3) b37) _)
    · exact (own7.drewN _).sl
    rintro e w8 ⟨rfl, q8, rfl⟩
    have k8 := below_drewN (k7d nq) q8
    have b28 := below_drewN (below_drewN (below_on hb3 b37) nq) q8
    obtain ⟨w8, hw8⟩ : ∃ w8, (w7.drewN nq).drewN q8 = w8 := ⟨_, rfl⟩
    rw [hw8] at k8 b28 ⊢
    clear hw8 hls
    go_wp2_with fail
  all_goals
    clear own7 hcx hfx b37 k7 k7d b36 k6 hb7
    have bkB := Blk.new w8 22 #[.slice B m d]
    refine (rregs_is bkB (hk.on (by repeat' (first | assumption | with_reducible exact Below.refl _ _ | with_reducible apply Below.drew | with_reducible apply below_drewN | with_reducible apply below_alloc | with_reducible refine below_set ?_ ?_ _ | (simp only [World.size_alloc, World.heap_drewN]; omega) | (simp; omega)))) HE2.out).mono ?_
    rintro e w9 ⟨rfl, hb9⟩
    have b89 : Below w8.heap.size w8 w9 := below_on (by repeat' (first | assumption | with_reducible exact Below.refl _ _ | with_reducible apply Below.drew | with_reducible apply below_drewN | with_reducible apply below_alloc | with_reducible refine below_set ?_ ?_ _ | (simp only [World.size_alloc, World.heap_drewN]; omega) | (simp; omega))) hb9
    have k9 := below_on k8 b89
    clear bkB
    go_wp2_with fail
    go_ret
    exact ⟨rfl, k9⟩
set_option maxRecDepth 100000 in
set_option maxHeartbeats 6400000 in
theorem law_regs_ok_ok (h : Si w A n c xs) (hk : Si w B m d ys) (he : rErr n xs = 0) (hv : 0 ≤ v ∧ v ≤ 72057594037927935) (hj : rErr m ys = 0) (hj2 : n = m) :
    Calls Try.prog 3 #[.slice A n c, .slice B m d, .int .i64 v] w fun e w' => e = .returned (.bool true) ∧ Below w.heap.size w w' := by
  obtain ⟨g1, g2⟩ := rErr_zero h.ilen he
  have hn16 : n ≤ 16 := by unfold rLen at g1; omega
  have hn0 : 0 < n := by unfold rLen at g1; omega
  have HL := hide h.ilen
  have hlm := h.len_max
  have hlm2 := hk.len_max
  have HE := hide he
  subst hj2
  have HE2 := hide hj
  have HL2 := hide hk.ilen
  clear hj
  have hr := inR_yes hv
  obtain ⟨v1, v2⟩ := hv
  obtain ⟨vn, rfl⟩ := Int.eq_ofNat_of_zero_le v1
  have hvn : vn ≤ 72057594037927935 := by omega
  have CP := hide (fun w h => regPut_ok (w := w) (A := A) (c := c) h he hvn)
  have hkn := Nat.mod_lt vn hn0
  have hx : xs[vn % n]? = some (xs.getD (vn % n) 0) := getD_at (by rw [HL.out]; exact hkn)
  have hxb := g2 _ (List.mem_of_getElem? hx)
  have HP := hide (show regPut n xs vn = xs.set (vn % n) (max (xs.getD (vn % n) 0) (57 - (Lib.bitLen (vn / n) : Int))) from rfl)
  have q1 : (vn : Int) % (n : Int) = ((vn % n : Nat) : Int) := rfl
  have CN := hide (fun w => noughts_q vn n hvn hn0 (by omega) w)
  have hbl : Lib.bitLen (vn / n) ≤ 56 := Lib.bitLen_le _ 56 (by decide) (by have := Nat.div_le_self vn n; omega)
  obtain ⟨k, hk0⟩ : ∃ k, vn % n = k := ⟨_, rfl⟩
  obtain ⟨b, hb0⟩ : ∃ b, Lib.bitLen (vn / n) = b := ⟨_, rfl⟩
  rw [hk0] at hkn hx hxb HP q1
  rw [hb0] at HP CN hbl
  clear hk0 hb0
  obtain ⟨x, hxe⟩ : ∃ x, xs.getD k 0 = x := ⟨_, rfl⟩
  rw [hxe] at hx hxb HP
  obtain ⟨x1, x2⟩ := hxb
  have HX := hide hx
  clear hxe hx
  clear he g1
  go_enter Try.func3, Try.ntmps3
  go_wp2_with fail
  refine (CP.out _ h).mono ?_
  rintro e w1 ⟨AX, cX, rfl, oX, hb1⟩
  have sX := oX.sl
  clear oX
  go_wp2_with fail
  refine (regJoin_ok (h.on hb1) (hk.on hb1) HE.out HE2.out).mono ?_
  rintro e w2 ⟨AJ, cJ, rfl, oJ, hb2⟩
  have sJ := oJ.sl
  clear oJ
  have k2 := below_on hb1 hb2
  go_wp2_with fail
  have FS := hide (fit_same HL.out HL2.out)
  refine (regFit_ok (h.on k2) (hk.on k2) HE.out HE2.out).mono ?_
  rintro e w3 ⟨rfl, hb3⟩
  rw [FS.out]
  have k3 := below_on k2 hb3
  obtain ⟨FB, hFB⟩ : ∃ b, leTo xs ys n = b := ⟨_, rfl⟩
  rw [hFB]
  have HFB := hide hFB
  clear hFB FS
  go_wp2_with fail
  have bkA := Blk.new w3 22 #[.slice A n c]
  refine (rregs_is bkA (h.on (by repeat' (first | assumption | with_reducible exact Below.refl _ _ | with_reducible apply Below.drew | with_reducible apply below_drewN | with_reducible apply below_alloc | with_reducible refine below_set ?_ ?_ _ | (simp only [World.size_alloc, World.heap_drewN]; omega) | (simp; omega)))) HE.out).mono ?_
  rintro e w4 ⟨rfl, hb4⟩
  have b34 : Below w3.heap.size w3 w4 := below_on (by repeat' (first | assumption | with_reducible exact Below.refl _ _ | with_reducible apply Below.drew | with_reducible apply below_drewN | with_reducible apply below_alloc | with_reducible refine below_set ?_ ?_ _ | (simp only [World.size_alloc, World.heap_drewN]; omega) | (simp; omega))) hb4
  have k4 := below_on k3 b34
  clear bkA
  go_wp2_with fail
  refine (regsCheck_is (h.on k4) HE.out).mono ?_
  rintro e w5 ⟨rfl, hb5⟩
  have k5 := below_on k4 hb5
  go_wp2_with fail
  refine (regsCheck_is (Sl.nil _ _ _) reg_nil).mono ?_
  rintro e w6 ⟨rfl, hb6⟩
  have k6 := below_on k5 hb6
  have b36 := below_on (below_on b34 hb5) hb6
  go_wp2_with fail
  refine (draw_any (vn : Int) _).mono ?_
  rintro e w' ⟨rfl, rfl⟩
  rw [hr]
  go_wp2_with fail
  refine (clone_ints A n c xs w6 (h.on k6) (by omega)).mono ?_
  rintro e w7 ⟨v7, rfl, hb7, A7, c7, rfl, own7⟩
  have k7 := below_on k6 hb7
  have b37 := below_on b36 hb7
  obtain ⟨g7, rfl, hg1, hg2⟩ := own7.addr hn0
  have hcx := own7.cell (j := k) (u := .int .i64 x) (by rw [ints_getElem?, HX.out]; rfl)
  have hfx := own7.free k
  have zw := k6.size
  have zw3 := b36.size
  have k7d := fun q => below_drewN k7 q
  by_cases hls : x < 57 - (b : Int)
  case' pos =>
    have HP2 := hide (show regPut n xs vn = xs.set k (57 - (b : Int)) by rw [HP.out, Int.max_eq_right (by omega)])
    go_wp2_with fail
    go_quiet ((go_at_call 15; exact Calls.quiet_of_same (CN.out _)))
    go_wp2_with (first | (go_at_call 15; refine (CN.out _).mono ?_; rintro e w' ⟨rfl, rfl⟩))
    refine (equal_yes AX _ n cX c7 (xs.set k (57 - (b : Int))) _ ?_ ?_).mono ?_
    · rw [← HP2.out]; exact sX.on (below_set (below_drewN (below_on (below_on hb2 hb3) b37) _) (Nat.le_trans (below_on (below_on hb2 hb3) b36).size hg1) _)
    · have o7 := ((own7.drewN nq).set k (.int .i64 (57 - (b : Int)))).sl; rw [← ints_set] at o7; exact o7
    rintro e w8 ⟨rfl, q8, rfl⟩
    have k8 := fun q => below_drewN (below_set (k7d q) (show w.heap.size ≤ (⟨g7, k, none⟩ : Addr).block from Nat.le_trans zw hg1) (.int .i64 (57 - (b : Int)))) q8
    have b28 := fun q => below_drewN (below_set (below_drewN (below_on hb3 b37) q) (show w2.heap.size ≤ (⟨g7, k, none⟩ : Addr).block from Nat.le_trans (below_on hb3 b36).size hg1) (.int .i64 (57 - (b : Int)))) q8
    have k8 := k8 nq
    have b28 := b28 nq
    obtain ⟨w8, hw8⟩ : ∃ w8, ((w7.drewN nq).setCell ⟨g7, k, none⟩ (.int .i64 (57 - (b : Int)))).drewN q8 = w8 := ⟨_, rfl⟩
    rw [hw8] at k8 b28 ⊢
    clear hw8 hls
    go_wp2_with fail
  case' neg =>
    have HP2 := hide (show regPut n xs vn = xs by rw [HP.out, Int.max_eq_left (by omega), set_here HX.out])
    go_wp2_with fail
    go_quiet ((go_at_call 15; exact Calls.quiet_of_same (CN.out _)))
    go_wp2_with fail
    refine (equal_yes AX _ n cX c7 xs _ ?_ ?_).mono ?_
    · have s0 := sX; rw [HP2.out] at s0; exact s0.on (below_drewN (below_on (below_on hb2 hb3) b37) _)
    · exact (own7.drewN _).sl
    rintro e w8 ⟨rfl, q8, rfl⟩
    have k8 := below_drewN (k7d nq) q8
    have b28 := below_drewN (below_drewN (below_on hb3 b37) nq) q8
    obtain ⟨w8, hw8⟩ : ∃ w8, (w7.drewN nq).drewN q8 = w8 := ⟨_, rfl⟩
    rw [hw8] at k8 b28 ⊢
    clear hw8 hls
    go_wp2_with fail
  all_goals
    clear own7 hcx hfx b37 k7 k7d b36 k6 hb7
    have bkB := Blk.new w8 22 #[.slice B n d]
    refine (rregs_is bkB (hk.on (by repeat' (first | assumption | with_reducible exact Below.refl _ _ | with_reducible apply Below.drew | with_reducible apply below_drewN | with_reducible apply below_alloc | with_reducible refine below_set ?_ ?_ _ | (simp only [World.size_alloc, World.heap_drewN]; omega) | (simp; omega)))) HE2.out).mono ?_
    rintro e w9 ⟨rfl, hb9⟩
    have b89 : Below w8.heap.size w8 w9 := below_on (by repeat' (first | assumption | with_reducible exact Below.refl _ _ | with_reducible apply Below.drew | with_reducible apply below_drewN | with_reducible apply below_alloc | with_reducible refine below_set ?_ ?_ _ | (simp only [World.size_alloc, World.heap_drewN]; omega) | (simp; omega))) hb9
    have k9 := below_on k8 b89
    clear bkB
    go_wp2_with fail
    have b29 := below_on b28 b89
    clear b89 b28 k8 k5 k4 k3 k2 hb9 hb4 hb5 hb6 b34
    have h9 := h.on k9
    have hk9 := hk.on k9
    go_loopw [16, 17, 150] (fun vo vf vi wr => ∃ (j : Nat) (Ab : Option Addr) (cb : Nat), j ≤ n ∧ vi = .int .i64 j ∧ vo = .slice Ab j cb ∧ vf = .bool (leTo xs ys j) ∧ Own wr w9.heap.size 3 1 Ab j cb (ints ((joined n xs ys).take j)) ∧ Below w9.heap.size w9 wr) (fun _ _ i _ => n - (intOf i).toNat)
    case atStart => exact ⟨0, none, 0, Nat.zero_le _, rfl, rfl, rfl, Own.nil _ _ _ _, Below.refl _ _⟩
    case round =>
      obtain ⟨j, Ab, cb, hj, rfl, rfl, rfl, own, hb⟩ := hrel
      have zr := hb.size
      by_cases hlt : j < n
      · obtain ⟨ad, xj, rfl, hbk, hxj, hcx9⟩ := h9.icell hlt
        obtain ⟨ae, yj, rfl, hbe, hyj, hcy9⟩ := hk9.icell hlt
        have hcxj := (hb.cell (p := ad.add j) (by rw [add_block]; exact hbk)).trans hcx9
        have hcyj := (hb.cell (p := ae.add j) (by rw [add_block]; exact hbe)).trans hcy9
        have HT := hide (joined_take HL.out hxj hyj)
        have HF := hide (show leTo xs ys (j + 1) = (leTo xs ys j && decide (xj ≤ yj)) by unfold leTo; rw [okTo, getD_of hxj, getD_of hyj])
        clear hxj hyj
        obtain ⟨F, hF⟩ : ∃ F, leTo xs ys j = F := ⟨_, rfl⟩
        rw [hF] at HF ⊢
        clear hF
        have HX4 := hide (fun (W : World) (hb4 : Below w9.heap.size w9 W) => (hb4.cell (p := ad.add j) (by rw [add_block]; exact hbk)).trans hcx9)
        have HY4 := hide (fun (W : World) (hb4 : Below w9.heap.size w9 W) => (hb4.cell (p := ae.add j) (by rw [add_block]; exact hbe)).trans hcy9)
        clear hcx9 hcy9
        go_wp2_with fail
        go_region_law (refine step_append_one T_int (base := w9.heap.size) (A := Ab) (xs := ints ((joined n xs ys).take j)) (v := .int .i64 (max xj yj)) (by rfl) (.tmp 153) (.tmp 163) (by rfl) (by rfl) (by rfl) ?_ ?_ rfl ?_ ?_ ?_ ?_; (first | with_reducible exact (own.alloc _).drew | with_reducible exact own.drew.alloc _ | with_reducible exact own.alloc _ | with_reducible exact own.drew); (first | with_reducible exact at_new _ _ | with_reducible exact at_newd _ _); (simp only [maxLen]; omega); omega; (simp only [World.drew, World.size_alloc]; omega); intro A4 c4 w4 ap; have own4 := ap.own; have hb4 : Below w9.heap.size w9 w4 := hb.trans (Below.trans (by repeat' (first | assumption | with_reducible exact Below.refl _ _ | with_reducible apply Below.drew | (with_reducible refine Below.alloc ?_ ?_ _) | (simp only [World.size_alloc, World.drew]; omega) | (simp; omega))) ap.below))
        all_goals
          have cx4 := HX4.out w4 hb4
          have cy4 := HY4.out w4 hb4
          have cx5 := HX4.out w4.drew (below_drewN hb4 1)
          have cy5 := HY4.out w4.drew (below_drewN hb4 1)
          rw [show ints ((joined n xs ys).take j) ++ [Value.int .i64 (max xj yj)] = ints ((joined n xs ys).take (j + 1)) from by rw [HT.out, ints_append]; rfl] at own4
          clear ap own hcxj hcyj
          go_wp2_with fail
          go_simp
          cases F
          · have HN := hide (show leTo xs ys (j + 1) = false by rw [HF.out]; rfl)
            go_quiet (fail)
            go_wp2_with fail
            go_roundw
            case rel => exact ⟨j + 1, A4, c4, by omega, by go_num, rfl, by rw [HN.out], own4.drewN _, below_drewN hb4 _⟩
            case measure => simp [intOf]; omega
          · by_cases hxy : xj ≤ yj
            · have HN := hide (show leTo xs ys (j + 1) = true by rw [HF.out]; simp [hxy])
              go_quiet (fail)
              go_wp2_with fail
              go_roundw
              case rel => exact ⟨j + 1, A4, c4, by omega, by go_num, rfl, by rw [HN.out], own4.drewN _, below_drewN hb4 _⟩
              case measure => simp [intOf]; omega
            · have HN := hide (show leTo xs ys (j + 1) = false by rw [HF.out]; simp [hxy])
              go_quiet (fail)
              go_wp2_with fail
              go_roundw
              case rel => exact ⟨j + 1, A4, c4, by omega, by go_num, rfl, by rw [HN.out], own4.drewN _, below_drewN hb4 _⟩
              case measure => simp [intOf]; omega
      · obtain rfl : j = n := by omega
        rw [List.take_of_length_le (by unfold joined; rw [maxTo_len, HL.out]; exact Nat.le_refl _)] at own
        have hFB := HFB.out
        rw [hFB]
        go_wp2_with fail
        refine (equal_yes _ _ _ _ _ _ _ (sJ.on (below_on b29 hb)) own.sl).mono ?_
        rintro e w10 ⟨rfl, q10, rfl⟩
        have k10 := below_drewN (below_on k9 hb) q10
        cases FB
        all_goals
          go_wp2_with fail
          go_ret
          exact ⟨rfl, k10⟩
end
theorem law_regs (A : Option Addr) (n c : Nat) (xs : List Int) (B : Option Addr) (m d : Nat) (ys : List Int) (v : Int) (w : World) (h : Si w A n c xs) (hk : Si w B m d ys) :
    Calls Try.prog 3 #[.slice A n c, .slice B m d, .int .i64 v] w fun e w' => e = .returned (.bool true) ∧ Below w.heap.size w w' := by
  by_cases he : rErr n xs = 0
  · by_cases hv : 0 ≤ v ∧ v ≤ 72057594037927935
    · by_cases hj : rErr m ys = 0
      · by_cases hj2 : n = m
        · exact law_regs_ok_ok h hk he hv hj hj2
        · exact law_regs_ok_bad3 h hk he hv hj hj2
      · exact law_regs_ok_bad2 h hk he hv hj
    · by_cases hj : rErr m ys = 0
      · by_cases hj2 : n = m
        · exact law_regs_arg_ok h hk he hv hj hj2
        · exact law_regs_arg_bad3 h hk he hv hj hj2
      · exact law_regs_arg_bad2 h hk he hv hj
  · exact law_regs_bad h hk he
end Go.Proofs.Ytkliebhpdcjdgaa
