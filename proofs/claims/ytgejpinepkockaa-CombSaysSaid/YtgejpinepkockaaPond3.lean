/-
  What the reference says of ponds: the walks. Conditions: as each theorem names them.
-/
import Derived.Test.YtgejpinepkockaaPond2
namespace Go.Proofs.Ytgejpinepkockaa
open Go.RowKit

set_option maxHeartbeats 800000 in
theorem refPond_any (K S : Int) (A : Option Addr) (n c : Nat) (hn : n ≤ 9223372036854775807) (w : World) :
    Calls Try.prog 20 #[.agg #[.int .i64 K, .int .i64 S, .slice A n c]] w fun e w' => e = .returned (.int .i64 (pondErr K S n)) ∧ Below w.heap.size w w' := by
  by_cases h1 : 1 ≤ K ∧ K ≤ 16
  · have t1 := inR_yes h1
    by_cases h2 : 0 ≤ S ∧ S ≤ 1000000000000
    · have t2 := inR_yes h2
      go_enter Try.func20, Try.ntmps20
      go_wp2_with (first | (go_at_call 82; refine (within_any _ _ _ _).mono ?_; rintro e w' ⟨rfl, rfl⟩) | (go_at_call 83; refine (count_any _ _).mono ?_; rintro e w' ⟨rfl, rfl⟩))
      all_goals (go_ret; refine ⟨ret_int ?_, below_alloc (Below.refl _ _) _⟩; unfold pondErr; simp only [bne_iff_ne, ne_eq, bne_eq_false_iff_eq, beq_iff_eq, beq_eq_false_iff_ne, decide_eq_true_eq, decide_eq_false_iff_not] at *; omega)
    · have t2 := inR_no h2
      have E := hide (show pondErr K S n = 1 by unfold pondErr; rw [if_pos (by omega)])
      go_enter Try.func20, Try.ntmps20
      go_wp2_with (first | (go_at_call 82; refine (within_any _ _ _ _).mono ?_; rintro e w' ⟨rfl, rfl⟩) | (go_at_call 83; refine (count_any _ _).mono ?_; rintro e w' ⟨rfl, rfl⟩))
      go_ret
      exact ⟨by rw [E.out]; rfl, below_alloc (Below.refl _ _) _⟩
  · have t1 := inR_no h1
    have E := hide (show pondErr K S n = 1 by unfold pondErr; rw [if_pos (by omega)])
    go_enter Try.func20, Try.ntmps20
    go_wp2_with (first | (go_at_call 82; refine (within_any _ _ _ _).mono ?_; rintro e w' ⟨rfl, rfl⟩))
    go_ret
    exact ⟨by rw [E.out]; rfl, below_alloc (Below.refl _ _) _⟩

theorem equal_yes (A1 A2 : Option Addr) (n c1 c2 : Nat) (xs : List Int) (w : World) (h1 : Si w A1 n c1 xs) (h2 : Si w A2 n c2 xs) :
    Calls Try.prog 16 #[.slice A1 n c1, .slice A2 n c2] w (Quiet w (.bool true)) :=
  (equal_ints A1 A2 n c1 n c2 xs xs w h1 h2).mono fun e w' h => by rw [same_yes rfl] at h; exact h

theorem samePond_yes (K S : Int) (A1 A2 : Option Addr) (n c1 c2 : Nat) (xs : List Int) (w : World) (h1 : Si w A1 n c1 xs) (h2 : Si w A2 n c2 xs) :
    Calls Try.prog 22 #[.agg #[.int .i64 K, .int .i64 S, .slice A1 n c1], .agg #[.int .i64 K, .int .i64 S, .slice A2 n c2]] w fun e w' => e = .returned (.bool true) ∧ Below w.heap.size w w' := by
  go_enter Try.func22, Try.ntmps22
  go_wp2_with fail
  refine (equal_yes A1 A2 n c1 c2 xs _ (h1.on (by repeat' (first | assumption | with_reducible exact Below.refl _ _ | with_reducible apply Below.drew | with_reducible apply below_drewN | with_reducible apply below_alloc | with_reducible refine below_set ?_ ?_ _ | (simp only [World.size_alloc, World.heap_drewN]; omega) | (simp; omega)))) (h2.on (by repeat' (first | assumption | with_reducible exact Below.refl _ _ | with_reducible apply Below.drew | with_reducible apply below_drewN | with_reducible apply below_alloc | with_reducible refine below_set ?_ ?_ _ | (simp only [World.size_alloc, World.heap_drewN]; omega) | (simp; omega))))).mono ?_
  rintro e w' ⟨rfl, q, rfl⟩
  go_wp2_with fail
  go_ret
  exact ⟨rfl, by repeat' (first | assumption | with_reducible exact Below.refl _ _ | with_reducible apply Below.drew | with_reducible apply below_drewN | with_reducible apply below_alloc | with_reducible refine below_set ?_ ?_ _ | (simp only [World.size_alloc, World.heap_drewN]; omega) | (simp; omega))⟩
end Go.Proofs.Ytgejpinepkockaa
