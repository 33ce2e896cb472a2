/-
  The walk of the law SpanSays. Conditions: the slices read as lists.
-/
import Derived.Test.YtgejpinepkockaaSpan5
import Derived.Deep.RegionHeld3
import Derived.Deep.DeepCutAuto
namespace Go.Proofs.Ytgejpinepkockaa
open Go.RowKit

/-- What is known of Kept's results. -/
def KQ (w' : World) (n : Nat) (r : Int) (ps : List (Int × Int)) (A : Option Addr) (k c : Nat) (E : Int) : Prop :=
  ((0 ≤ r ∧ r ≤ 72057594037927935) ∧ E = 0 ∧ k = n ∧ Sb w' A n c (ps.map (keeps r))) ∨ (¬ (0 ≤ r ∧ r ≤ 72057594037927935) ∧ E = 1 ∧ k = 0)
def KeptU (w : World) (n : Nat) (r : Int) (ps : List (Int × Int)) (e : Ending) (w' : World) : Prop :=
  ∃ A k c E, e = .returned (.tuple #[.slice A k c, .int .i64 E]) ∧ KQ w' n r ps A k c E ∧ Below w.heap.size w w'
def WQ (n m : Nat) (ps : List (Int × Int)) (bs : List Bool) (b : Bool) (E : Int) : Prop := (m = n ∧ E = 0 ∧ b = okTo (wholeOk ps bs) n) ∨ (¬ m = n ∧ E = 7 ∧ b = false)
def WholeU (w : World) (n m : Nat) (ps : List (Int × Int)) (bs : List Bool) (e : Ending) (w' : World) : Prop :=
  ∃ b E, e = .returned (.tuple #[.bool b, .int .i64 E]) ∧ WQ n m ps bs b E ∧ Below w.heap.size w w'
def CQ (n m : Nat) (ps : List (Int × Int)) (bs : List Bool) (x E : Int) : Prop := (m = n ∧ E = 0 ∧ x = countTo ps bs n) ∨ (¬ m = n ∧ E = 7 ∧ x = 0)
def CountU (w : World) (n m : Nat) (ps : List (Int × Int)) (bs : List Bool) (e : Ending) (w' : World) : Prop :=
  ∃ x E, e = .returned (.tuple #[.int .i64 x, .int .i64 E]) ∧ CQ n m ps bs x E ∧ Below w.heap.size w w'
section
variable {A B : Option Addr} {n c m d : Nat} {ps : List (Int × Int)} {bs : List Bool} {w : World} {r : Int}
theorem kept_u (h : Sp w A n c ps) (he : spanErr n ps = 0) : Calls Try.prog 56 #[.slice A n c, .int .i64 r] w (KeptU w n r ps) := by
  by_cases hr : 0 ≤ r ∧ r ≤ 72057594037927935
  · exact (kept_ok h he hr.1 hr.2).mono fun e w' ⟨A', c', h1, h2, h3⟩ => ⟨A', n, c', 0, h1, .inl ⟨hr, rfl, rfl, h2.sl⟩, h3⟩
  · exact (kept_arg h he hr).mono fun e w' ⟨h1, h3⟩ => ⟨none, 0, 0, 1, h1, .inr ⟨hr, rfl, rfl⟩, h3⟩
theorem whole_u (h : Sp w A n c ps) (hk : Sb w B m d bs) (he : spanErr n ps = 0) : Calls Try.prog 57 #[.slice A n c, .slice B m d] w (WholeU w n m ps bs) := by
  by_cases hm : m = n
  · subst hm
    exact (whole_ok h hk he).mono fun e w' ⟨h1, h3⟩ => ⟨_, _, h1, .inl ⟨rfl, rfl, rfl⟩, h3⟩
  · have e1 : wcErr n m ps = 7 := by unfold wcErr; rw [if_neg (by simpa using he), if_pos hm]
    exact (whole_bad h hk.len_max e1 (by decide)).mono fun e w' ⟨h1, h3⟩ => ⟨_, _, h1, .inr ⟨hm, rfl, rfl⟩, h3⟩
theorem count_u (h : Sp w A n c ps) (hk : Sb w B m d bs) (he : spanErr n ps = 0) : Calls Try.prog 59 #[.slice A n c, .slice B m d] w (CountU w n m ps bs) := by
  by_cases hm : m = n
  · subst hm
    exact (count_ok h hk he).mono fun e w' ⟨h1, h3⟩ => ⟨_, _, h1, .inl ⟨rfl, rfl, rfl⟩, h3⟩
  · have e1 : wcErr n m ps = 7 := by unfold wcErr; rw [if_neg (by simpa using he), if_pos hm]
    exact (count_bad h hk.len_max e1 (by decide)).mono fun e w' ⟨h1, h3⟩ => ⟨_, _, h1, .inr ⟨hm, rfl, rfl⟩, h3⟩
theorem span_one : spanErr 1 [(-2, 0)] = 1 := by decide
theorem under_q (h : Sp w A n c ps) (hok : okTo (spanOk ps) n = true) (j k : Nat) (hj : j < n) (b : Bool) (hb : b = true ↔ Rch ps 0 j k) :
    Calls Try.prog 63 #[.slice A n c, .int .i64 j, .int .i64 k] w fun e w' => e = .returned (.bool b) ∧ w' = w :=
  (under_any h hok j k hj b hb).mono fun _ _ ⟨h1, h2⟩ => ⟨h1, h2.symm⟩

set_option maxRecDepth 100000 in
set_option maxHeartbeats 3200000 in
theorem law_span_bad (h : Sp w A n c ps) (hk : Sb w B m d bs) (h0 : ¬ spanErr n ps = 0) :
    Calls Try.prog 12 #[.slice A n c, .int .i64 r, .slice B m d] w fun e w' => e = .returned (.bool true) ∧ Below w.heap.size w w' := by
  obtain ⟨E, hE⟩ : ∃ E, spanErr n ps = E := ⟨_, rfl⟩
  rw [hE] at h0
  have e1 : (E != 0) = true := by simpa using h0
  have e2 : wcErr n m ps = E := by unfold wcErr; rw [if_pos (by rw [hE]; exact h0), hE]
  have HE := hide hE
  have HN := hide h0
  have H2 := hide e2
  have hm2 := hk.len_max
  clear hE h0 e2
  go_enter Try.func12, Try.ntmps12
  go_wp2_with fail
  refine (kept_bad h HE.out HN.out).mono ?_
  rintro e w1 ⟨rfl, hb1⟩
  go_wp2_with fail
  refine (whole_bad (h.on hb1) hm2 H2.out HN.out).mono ?_
  rintro e w2 ⟨rfl, hb2⟩
  have k2 := below_on hb1 hb2
  go_wp2_with fail
  refine (mend_bad (h.on k2) HE.out HN.out).mono ?_
  rintro e w3 ⟨rfl, hb3⟩
  have k3 := below_on k2 hb3
  go_wp2_with fail
  refine (count_bad (h.on k3) hm2 H2.out HN.out).mono ?_
  rintro e w4 ⟨rfl, hb4⟩
  have k4 := below_on k3 hb4
  go_wp2_with fail
  refine (spans_is (h.on k4) HE.out).mono ?_
  rintro e w5 ⟨rfl, hb5⟩
  have k5 := below_on k4 hb5
  go_wp2_with fail
  refine (spanCheck_is (h.on k5) HE.out).mono ?_
  rintro e w6 ⟨rfl, hb6⟩
  have k6 := below_on k5 hb6
  go_wp2_with fail
  refine (spanCheck_is (ps := [(-2, 0)]) (Sl.blk 2 1 (e := 83) (by simp only [heap_alloc_get, World.size_alloc]; simp [prs]) rfl (by simp [maxLen])) span_one).mono ?_
  rintro e w7 ⟨rfl, hb7⟩
  have k7 : Below w.heap.size w w7 := below_on (by repeat' (first | assumption | with_reducible exact Below.refl _ _ | with_reducible apply Below.drew | with_reducible apply below_drewN | with_reducible apply below_alloc | with_reducible refine below_set ?_ ?_ _ | (simp only [World.size_alloc, World.heap_drewN]; omega) | (simp; omega))) hb7
  go_wp2_with fail
  go_ret
  exact ⟨rfl, k7⟩
end
end Go.Proofs.Ytgejpinepkockaa
