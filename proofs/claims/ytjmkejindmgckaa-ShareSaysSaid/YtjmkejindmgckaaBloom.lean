/-
  bloom.Check, culref.Filter, culref.SameFilter of the same filters, slices.Clone at []bool: the walks. Conditions: the bits read as a list.
-/
import Derived.Test.YtjmkejindmgckaaEqB
import Derived.Test.YtjmkejindmgckaaWithin
import Derived.Test.YtjmkejindmgckaaPlain
import Derived.Test.YtjmkejindmgckaaClone
import Derived.Test.YtjmkejindmgckaaOwn2
namespace Go.Proofs.Ytjmkejindmgckaa
open Go.RowKit

def fltBad (S K : Int) : Prop := S < 1 ∨ 256 < S ∨ K < 1 ∨ 8 < K
instance (S K : Int) : Decidable (fltBad S K) := by unfold fltBad; infer_instance
def fltErr (S K : Int) (n : Nat) : Int := if fltBad S K then 1 else if (n : Int) ≠ S then 7 else 0
theorem flt_cases {S K : Int} (h : fltBad S K) : S < 1 ∨ (¬ S < 1 ∧ 256 < S) ∨ (¬ S < 1 ∧ ¬ 256 < S ∧ K < 1) ∨ (¬ S < 1 ∧ ¬ 256 < S ∧ ¬ K < 1 ∧ 8 < K) := by unfold fltBad at h; omega
theorem fltErr_zero {S K : Int} {n : Nat} (h : fltErr S K n = 0) : 1 ≤ S ∧ S ≤ 256 ∧ 1 ≤ K ∧ K ≤ 8 ∧ (n : Int) = S := by
  unfold fltErr at h
  by_cases h1 : fltBad S K
  · rw [if_pos h1] at h; omega
  · rw [if_neg h1] at h
    by_cases h2 : (n : Int) = S
    · unfold fltBad at h1; omega
    · rw [if_pos h2] at h; omega
section
variable {S K : Int} {A : Option Addr} {n c : Nat} {w : World}
set_option maxHeartbeats 800000 in
theorem bloomCheck_any (hn : n ≤ 9223372036854775807) :
    Calls Try.prog 24 #[.agg #[.int .i64 S, .int .i64 K, .slice A n c]] w fun e w' => e = .returned (.int .i64 (fltErr S K n)) ∧ Below w.heap.size w w' := by
  by_cases h1 : fltBad S K
  · have E := hide (show fltErr S K n = 1 from if_pos h1)
    rcases flt_cases h1 with k1 | ⟨k1, k2⟩ | ⟨k1, k2, k3⟩ | ⟨k1, k2, k3, k4⟩
    all_goals
      clear h1
      go_enter Try.func24, Try.ntmps24
      go_wp2_with fail
      go_ret
      exact ⟨by rw [E.out]; rfl, by repeat' (first | assumption | with_reducible exact Below.refl _ _ | with_reducible apply Below.drew | with_reducible apply below_drewN | with_reducible apply below_alloc | with_reducible refine below_set ?_ ?_ _ | (simp only [World.size_alloc, World.heap_drewN]; omega) | (simp; omega))⟩
  · have HE := hide (show fltErr S K n = if (n : Int) ≠ S then 7 else 0 from if_neg h1)
    have k1 : 1 ≤ S := by unfold fltBad at h1; omega
    have k2 : S ≤ 256 := by unfold fltBad at h1; omega
    have k3 : 1 ≤ K := by unfold fltBad at h1; omega
    have k4 : K ≤ 8 := by unfold fltBad at h1; omega
    clear h1
    by_cases h2 : (n : Int) = S
    · have E := hide (show fltErr S K n = 0 by rw [HE.out, if_neg (by simpa using h2)])
      have t1 : ((n : Int) != S) = false := by simp [h2]
      clear h2
      go_enter Try.func24, Try.ntmps24
      go_wp2_with fail
      go_ret
      exact ⟨by rw [E.out]; rfl, by repeat' (first | assumption | with_reducible exact Below.refl _ _ | with_reducible apply Below.drew | with_reducible apply below_drewN | with_reducible apply below_alloc | with_reducible refine below_set ?_ ?_ _ | (simp only [World.size_alloc, World.heap_drewN]; omega) | (simp; omega))⟩
    · have E := hide (show fltErr S K n = 7 by rw [HE.out, if_pos h2])
      have t1 : ((n : Int) != S) = true := by simpa using h2
      clear h2
      go_enter Try.func24, Try.ntmps24
      go_wp2_with fail
      go_ret
      exact ⟨by rw [E.out]; rfl, by repeat' (first | assumption | with_reducible exact Below.refl _ _ | with_reducible apply Below.drew | with_reducible apply below_drewN | with_reducible apply below_alloc | with_reducible refine below_set ?_ ?_ _ | (simp only [World.size_alloc, World.heap_drewN]; omega) | (simp; omega))⟩
set_option maxHeartbeats 800000 in
theorem filter_any (hn : n ≤ 9223372036854775807) :
    Calls Try.prog 23 #[.agg #[.int .i64 S, .int .i64 K, .slice A n c]] w fun e w' => e = .returned (.int .i64 (fltErr S K n)) ∧ Below w.heap.size w w' := by
  by_cases s1 : 1 ≤ S ∧ S ≤ 256
  · have t1 := inR_yes s1
    by_cases s2 : 1 ≤ K ∧ K ≤ 8
    · have t2 := inR_yes s2
      have HE := hide (show fltErr S K n = if (n : Int) ≠ S then 7 else 0 from if_neg (by unfold fltBad; omega))
      clear s1 s2
      by_cases h2 : (n : Int) = S
      · have E := hide (show fltErr S K n = 0 by rw [HE.out, if_neg (by simpa using h2)])
        have t3 : ((n : Int) != S) = false := by simp [h2]
        clear h2
        go_enter Try.func23, Try.ntmps23
        go_wp2_with (first | (go_at_call 70; refine (within_any _ _ _ _).mono ?_; rintro e w' ⟨rfl, rfl⟩))
        go_ret
        exact ⟨by rw [E.out]; rfl, below_alloc (Below.refl _ _) _⟩
      · have E := hide (show fltErr S K n = 7 by rw [HE.out, if_pos h2])
        have t3 : ((n : Int) != S) = true := by simpa using h2
        clear h2
        go_enter Try.func23, Try.ntmps23
        go_wp2_with (first | (go_at_call 70; refine (within_any _ _ _ _).mono ?_; rintro e w' ⟨rfl, rfl⟩))
        go_ret
        exact ⟨by rw [E.out]; rfl, below_alloc (Below.refl _ _) _⟩
    · have t2 := inR_no s2
      have E := hide (show fltErr S K n = 1 from if_pos (by unfold fltBad; omega))
      clear s1 s2
      go_enter Try.func23, Try.ntmps23
      go_wp2_with (first | (go_at_call 70; refine (within_any _ _ _ _).mono ?_; rintro e w' ⟨rfl, rfl⟩))
      go_ret
      exact ⟨by rw [E.out]; rfl, below_alloc (Below.refl _ _) _⟩
  · have t1 := inR_no s1
    have E := hide (show fltErr S K n = 1 from if_pos (by unfold fltBad; omega))
    clear s1
    go_enter Try.func23, Try.ntmps23
    go_wp2_with (first | (go_at_call 70; refine (within_any _ _ _ _).mono ?_; rintro e w' ⟨rfl, rfl⟩))
    go_ret
    exact ⟨by rw [E.out]; rfl, below_alloc (Below.refl _ _) _⟩
end
set_option maxHeartbeats 800000 in
theorem sameFilter_yes (S K : Int) (A1 A2 : Option Addr) (n c1 c2 : Nat) (xs : List Bool) (w : World) (h1 : Sb w A1 n c1 xs) (h2 : Sb w A2 n c2 xs) :
    Calls Try.prog 25 #[.agg #[.int .i64 S, .int .i64 K, .slice A1 n c1], .agg #[.int .i64 S, .int .i64 K, .slice A2 n c2]] w fun e w' => e = .returned (.bool true) ∧ Below w.heap.size w w' := by
  go_enter Try.func25, Try.ntmps25
  go_wp2_with fail
  refine (equalB_yes A1 A2 n c1 c2 xs _ (h1.on (by repeat' (first | assumption | with_reducible exact Below.refl _ _ | with_reducible apply Below.drew | with_reducible apply below_drewN | with_reducible apply below_alloc | with_reducible refine below_set ?_ ?_ _ | (simp only [World.size_alloc, World.heap_drewN]; omega) | (simp; omega)))) (h2.on (by repeat' (first | assumption | with_reducible exact Below.refl _ _ | with_reducible apply Below.drew | with_reducible apply below_drewN | with_reducible apply below_alloc | with_reducible refine below_set ?_ ?_ _ | (simp only [World.size_alloc, World.heap_drewN]; omega) | (simp; omega))))).mono ?_
  rintro e w' ⟨rfl, q, rfl⟩
  go_wp2_with fail
  go_ret
  exact ⟨rfl, by repeat' (first | assumption | with_reducible exact Below.refl _ _ | with_reducible apply Below.drew | with_reducible apply below_drewN | with_reducible apply below_alloc | with_reducible refine below_set ?_ ?_ _ | (simp only [World.size_alloc, World.heap_drewN]; omega) | (simp; omega))⟩
set_option maxHeartbeats 800000 in
theorem clone_bools (A : Option Addr) (n c : Nat) (xs : List Bool) (w : World) (h : Sb w A n c xs) (hr : n ≤ 140737488355328) :
    Calls Try.prog 26 #[.slice A n c] w (Ret w (Cloned w 4 1 n (bools xs))) := by
  have hm := h.len_max
  rcases A with _ | ad
  · have hc := h.nul rfl
    subst hc
    have hn : n = 0 := by have := h.cap; omega
    subst hn
    have hx : xs = [] := List.eq_nil_of_length_eq_zero h.blen
    subst hx
    go_enter Try.func26, Try.ntmps26
    have r := fun w => Lib.run_eql_slice_nil (P := Try.prog) w 40 4 none 0 0 0 0 Try.underlying40
    go_wp2
    go_ret
    exact ⟨_, rfl, Below.refl _ _, none, 0, rfl, Own.nil _ _ _ _⟩
  · have r := fun w => Lib.run_eql_slice_nil (P := Try.prog) w 40 4 (some ad) n c 0 0 Try.underlying40
    go_enter Try.func26, Try.ntmps26
    go_wp2_with (at_builtin; refine wpList_append_sl T_bool rfl _ _ rfl (by rfl) (by rfl) (Own.new w w.heap.size 4 1 0 #[] (Nat.le_refl _) (Nat.zero_le _) rfl) (h.alloc (Nat.le_refl _) _) (bools_one _) (by simp only [maxLen]; omega) (by omega) (by simp) ?_; intro A' c' w' ap)
    go_ret
    have hb : Below w.heap.size w w' := ((Below.refl _ w).alloc (Nat.le_refl _) _).trans ap.below
    exact ⟨_, rfl, hb, A', c', by simp, by simpa using ap.own⟩
end Go.Proofs.Ytjmkejindmgckaa
