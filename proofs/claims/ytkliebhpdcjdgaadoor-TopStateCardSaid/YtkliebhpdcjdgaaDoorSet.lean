/-
  state.Set: the walk; the closure of culref.Set; slices.Equal at []api.Pair, of the same lists. Conditions: the slice reads as a list of pairs of texts; the texts' lengths.
-/
import Derived.Test.YtkliebhpdcjdgaaDoorMark2
import Derived.Test.YtkliebhpdcjdgaaDoorPairDel
import Derived.Test.YtkliebhpdcjdgaaDoorSetP
import Derived.Deep.QuietTactic
import Derived.BigQuiet
namespace Go.Proofs.YtkliebhpdcjdgaaDoor
open Go.RowKit Go.Shelf

theorem n_of_ok {n : Nat} {ps : List Pr} (h : prErr n ps = 0) : n ≤ 40 := by
  by_cases g : 40 < n
  · rw [prErr_large g] at h; exact absurd h (by decide)
  · omega
theorem drawOk_is (x : Int) : drawOk x = isDraw x := rfl
/-- What Set leaves. -/
def SetRet (w : World) (ps : List Pr) (E : Int) (e : Ending) (w' : World) : Prop :=
  ∃ A n c, e = .returned (.tuple #[.slice A n c, .int .i64 E]) ∧ Sp2 w' A n c ps ∧ Below w.heap.size w w'
theorem setRet_nil {w w' : World} {E : Int} (h : Below w.heap.size w w') : SetRet w [] E (.returned (.tuple #[.slice none 0 0, .int .i64 E])) w' := ⟨none, 0, 0, rfl, Sl.nil _ _ _, h⟩
def setL (ps : List Pr) (m : Mk) (E : Int) : List Pr := if E = 0 then setAll ps m else []
section
variable {A : Option Addr} {n c : Nat} {ps : List Pr} {w : World} {a b : Int} {x y : Bool}
set_option maxRecDepth 20000 in
set_option maxHeartbeats 1600000 in
theorem sset_bad (h : Sp2 w A n c ps) (hf : Fit ps) {E : Int} (hE : prErr n ps = E) (h0 : ¬ E = 0) :
    Calls Tryd.prog 12 #[.slice A n c, .agg #[.int .i64 a, .int .i64 b, .bool x, .bool y]] w (SetRet w [] E) := by
  have t1 : (E != 0) = true := by simpa using h0
  have hb0 : Below w.heap.size w (w.alloc (.cells (mkV (a, b, x, y)).toArray 34)) := by repeat' (first | assumption | with_reducible exact Below.refl _ _ | with_reducible apply Below.drew | with_reducible apply below_drewN | with_reducible apply below_alloc | with_reducible refine below_set ?_ ?_ _ | (simp only [World.size_alloc, World.heap_drewN]; omega) | (simp; omega))
  have HC := hide (scheck_any (h.on hb0) hf)
  rw [hE] at HC
  clear hE h0
  go_enter Tryd.func12, Tryd.ntmps12
  go_wp2_with fail
  refine HC.out.mono ?_
  rintro e w1 ⟨rfl, bel⟩
  go_wp2_with fail
  go_ret2
  exact setRet_nil (below_on hb0 bel)
set_option maxRecDepth 20000 in
set_option maxHeartbeats 1600000 in
theorem sset_arg (h : Sp2 w A n c ps) (hf : Fit ps) (hE : prErr n ps = 0) (hd : (isDraw a && isDraw b) = false) :
    Calls Tryd.prog 12 #[.slice A n c, .agg #[.int .i64 a, .int .i64 b, .bool x, .bool y]] w (SetRet w [] 1) := by
  have b0 := Blk.new w 34 (mkV (a, b, x, y)).toArray
  have hb0 : Below w.heap.size w (w.alloc (.cells (mkV (a, b, x, y)).toArray 34)) := by repeat' (first | assumption | with_reducible exact Below.refl _ _ | with_reducible apply Below.drew | with_reducible apply below_drewN | with_reducible apply below_alloc | with_reducible refine below_set ?_ ?_ _ | (simp only [World.size_alloc, World.heap_drewN]; omega) | (simp; omega))
  have HC := hide (scheck_any (h.on hb0) hf)
  rw [hE] at HC
  clear hE
  cases ha : isDraw a
  · have HA := hide ha
    clear hd ha
    go_enter Tryd.func12, Tryd.ntmps12
    go_wp2_with fail
    refine HC.out.mono ?_
    rintro e w1 ⟨rfl, bel⟩
    have b1 := b0.below bel b0.lt
    have m0 := b1.at_ (i := 0) (u := .int .i64 a) rfl
    have m1 := b1.at_ (i := 1) (u := .int .i64 b) rfl
    go_wp2_with fail
    refine (hnum_is HA.out _).mono ?_
    rintro e w2 ⟨rfl, rfl⟩
    go_wp2_with fail
    go_ret2
    exact setRet_nil (below_on hb0 bel)
  · rw [ha, Bool.true_and] at hd
    have HA := hide ha
    have HB := hide hd
    clear hd ha
    go_enter Tryd.func12, Tryd.ntmps12
    go_wp2_with fail
    refine HC.out.mono ?_
    rintro e w1 ⟨rfl, bel⟩
    have b1 := b0.below bel b0.lt
    have m0 := b1.at_ (i := 0) (u := .int .i64 a) rfl
    have m1 := b1.at_ (i := 1) (u := .int .i64 b) rfl
    go_wp2_with fail
    refine (hnum_is HA.out _).mono ?_
    rintro e w2 ⟨rfl, rfl⟩
    go_wp2_with fail
    refine (hnum_is HB.out _).mono ?_
    rintro e w2 ⟨rfl, rfl⟩
    go_wp2_with fail
    go_ret2
    exact setRet_nil (below_on hb0 bel)
set_option maxHeartbeats 800000 in
theorem equalP_yes (A1 A2 : Option Addr) (n c1 c2 : Nat) (xs : List Pr) (w : World) (h1 : Sp2 w A1 n c1 xs) (h2 : Sp2 w A2 n c2 xs) :
    Calls Tryd.prog 33 #[.slice A1 n c1, .slice A2 n c2] w (Quiet w (.bool true)) := by
  have hm1 := h1.len_max
  go_enter Tryd.func33, Tryd.ntmps33
  go_wp2
  go_loopw [13] (fun i wr => ∃ k : Nat, k ≤ n ∧ i = .int .i64 k ∧ ∃ q, wr = w.drewN q) (fun i _ => n - (intOf i).toNat)
  case atStart => exact ⟨0, Nat.zero_le _, rfl, 0, rfl⟩
  case round =>
    obtain ⟨k, hk, rfl, q, rfl⟩ := hrel
    by_cases hlt : k < n
    · obtain ⟨ad, x, rfl, hbx, hx, hcx, hdx⟩ := h1.scell hlt
      obtain ⟨ae, y, rfl, hby, hy, hcy, hdy⟩ := h2.scell hlt
      rw [hx] at hy
      injection hy with hy
      subst hy
      clear hx
      obtain ⟨u, l⟩ := x
      dsimp only at hcx hdx hcy hdy
      have t1 := same_texts (a := u) rfl
      have t2 := same_texts (a := l) rfl
      go_wp2
      go_quiet (fail)
      go_wp2
      go_roundw
      case rel => exact ⟨k + 1, by omega, by go_num, _, rfl⟩
      case measure => simp [intOf]; omega
    · obtain rfl : k = n := by omega
      go_wp2
      go_ret
      exact ⟨rfl, q, rfl⟩
set_option maxRecDepth 20000 in
set_option maxHeartbeats 1600000 in
theorem setFn (p : Pr) (w : World) : Calls Tryd.prog 54 #[.agg #[.string p.1, .string p.2]] w fun e w' => e = .returned (.bool (isMark p)) ∧ Below w.heap.size w w' := by
  have hb0 : Below w.heap.size w (w.alloc (.cells #[.string p.1, .string p.2] 45)) := by repeat' (first | assumption | with_reducible exact Below.refl _ _ | with_reducible apply Below.drew | with_reducible apply below_drewN | with_reducible apply below_alloc | with_reducible refine below_set ?_ ?_ _ | (simp only [World.size_alloc, World.heap_drewN]; omega) | (simp; omega))
  by_cases eth : p.1 = thName
  · have t1 : (p.1.toList == [116, 104]) = true := is_text eth
    have t2 : (p.1.toList == [114, 118]) = false := not_text (fun e => names_differ (eth.symm.trans e))
    have HM := hide (isMark_th eth)
    clear eth
    go_enter Tryd.func54, Tryd.ntmps54
    go_wp2_with fail
    rw [HM.out]
    go_ret
    exact ⟨rfl, hb0⟩
  · by_cases erv : p.1 = rvName
    · have t1 : (p.1.toList == [116, 104]) = false := not_text eth
      have t2 : (p.1.toList == [114, 118]) = true := is_text erv
      have HM := hide (isMark_rv erv)
      clear eth erv
      go_enter Tryd.func54, Tryd.ntmps54
      go_wp2_with fail
      rw [HM.out]
      go_ret
      exact ⟨rfl, hb0⟩
    · have t1 : (p.1.toList == [116, 104]) = false := not_text eth
      have t2 : (p.1.toList == [114, 118]) = false := not_text erv
      have HM := hide (isMark_no eth erv)
      clear eth erv
      go_enter Tryd.func54, Tryd.ntmps54
      go_wp2_with fail
      rw [HM.out]
      go_ret
      exact ⟨rfl, hb0⟩
theorem setFn_does : AnswersP 54 isMark := ⟨entersP Tryd.func54 (by kernel_rfl) rfl, setFn⟩
end
end Go.Proofs.YtkliebhpdcjdgaaDoor
