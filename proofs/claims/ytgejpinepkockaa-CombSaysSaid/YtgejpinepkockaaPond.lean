/-
  pond.Check, pond.Put and what the reference says of them: the walks. Conditions: the items read as a list of numbers.
-/
import Derived.Test.YtgejpinepkockaaDeal
namespace Go.Proofs.Ytgejpinepkockaa
open Go.RowKit

theorem count_any (x : Int) (w : World) : Calls Try.prog 83 #[.int .i64 x] w fun e w' => e = .returned (.bool (inR x 0 1000000000000)) ∧ w = w' := by
  go_enter Try.func83, Try.ntmps83
  go_wp2_with fail
  refine (within_any _ _ _ _).mono ?_
  rintro e w' ⟨rfl, rfl⟩
  go_wp2_with fail
  go_ret
  exact ⟨rfl, rfl⟩

def pondErr (K S n : Int) : Int := if K < 1 ∨ 16 < K ∨ S < 0 ∨ 1000000000000 < S then 1 else if n ≠ min K S then 7 else 0
theorem ret_int {a b : Int} (h : a = b) : Ending.returned (.int .i64 a) = .returned (.int .i64 b) := by rw [h]

set_option maxHeartbeats 800000 in
theorem pondCheck_any (K S : Int) (A : Option Addr) (n c : Nat) (hn : n ≤ 9223372036854775807) (w : World) :
    Calls Try.prog 21 #[.agg #[.int .i64 K, .int .i64 S, .slice A n c]] w fun e w' => e = .returned (.int .i64 (pondErr K S n)) ∧ Below w.heap.size w w' := by
  go_enter Try.func21, Try.ntmps21
  go_wp2
  all_goals (go_ret; refine ⟨ret_int ?_, below_alloc (Below.refl _ _) _⟩; unfold pondErr; simp only [bne_iff_ne, ne_eq, bne_eq_false_iff_eq] at *; omega)

def putErr (K S n d : Int) : Int := if pondErr K S n ≠ 0 then pondErr K S n else if S = 1000000000000 then 2 else if d < 0 ∨ S < d then 1 else 0
/-- What a pond holds behind a thing that came. -/
def came (K S : Int) (xs : List Int) (x d : Int) : List Int := if S < K then xs ++ [x] else if d < K then xs.set d.toNat x else xs

set_option maxHeartbeats 800000 in
theorem pondPut_bad (K S : Int) (A : Option Addr) (n c : Nat) (x d : Int) (hn : n ≤ 9223372036854775807) (he : ¬ putErr K S n d = 0) (w : World) :
    Calls Try.prog 19 #[.agg #[.int .i64 K, .int .i64 S, .slice A n c], .int .i64 x, .int .i64 d] w fun e w' =>
      e = .returned (.tuple #[.agg #[.int .i64 0, .int .i64 0, .slice none 0 0], .int .i64 (putErr K S n d)]) ∧ Below w.heap.size w w' := by
  by_cases h1 : pondErr K S n = 0
  · by_cases h2 : S = 1000000000000
    · have t1 : (S == 1000000000000) = true := by simp [h2]
      have HE := hide (show putErr K S n d = 2 by unfold putErr; rw [if_neg (by simpa using h1), if_pos h2])
      have H1 := hide h1
      have H2 := hide h2
      clear he h1 h2
      go_enter Try.func19, Try.ntmps19
      go_wp2_with fail
      have cc := pondCheck_any K S A n c hn ((w.alloc (.cells #[.int .i64 K, .int .i64 S, .slice A n c] 32)).alloc (.cells #[.int .i64 0, .int .i64 0, .slice none 0 0] 32))
      rw [H1.out] at cc
      refine cc.mono ?_
      clear cc
      rintro e w1 ⟨rfl, hb1⟩
      have hw1 : Below w.heap.size w w1 := below_on (by repeat' (first | assumption | with_reducible exact Below.refl _ _ | with_reducible apply Below.drew | with_reducible apply below_drewN | with_reducible apply below_alloc | with_reducible refine below_set ?_ ?_ _ | (simp only [World.size_alloc, World.heap_drewN]; omega) | (simp; omega))) hb1
      obtain ⟨hc, hf⟩ := bcell hb1
      have hz := hb1.size
      simp only [World.size_alloc] at hz
      go_wp2_with fail
      refine bodyPost_ret (v := .tuple #[.agg #[.int .i64 0, .int .i64 0, .slice none 0 0], .int .i64 2]) (by simp [results, Try.results19, go_sem, hc, hf]) rfl ?_
      rw [HE.out]
      exact ⟨rfl, by repeat' (first | assumption | with_reducible exact Below.refl _ _ | with_reducible apply Below.drew | with_reducible apply below_drewN | with_reducible apply below_alloc | with_reducible refine below_set ?_ ?_ _ | (simp only [World.size_alloc, World.heap_drewN]; omega) | (simp; omega))⟩
    · have t1 : (S == 1000000000000) = false := by simp [h2]
      have hd : d < 0 ∨ S < d := by
        simp only [putErr, h1, h2] at he
        simp at he
        omega
      have HE := hide (show putErr K S n d = 1 by simp [putErr, h1, h2, hd])
      have H1 := hide h1
      clear he h1 h2
      by_cases h3 : d < 0
      · clear hd
        go_enter Try.func19, Try.ntmps19
        go_wp2_with fail
        have cc := pondCheck_any K S A n c hn ((w.alloc (.cells #[.int .i64 K, .int .i64 S, .slice A n c] 32)).alloc (.cells #[.int .i64 0, .int .i64 0, .slice none 0 0] 32))
        rw [H1.out] at cc
        refine cc.mono ?_
        clear cc
        rintro e w1 ⟨rfl, hb1⟩
        have hw1 : Below w.heap.size w w1 := below_on (by repeat' (first | assumption | with_reducible exact Below.refl _ _ | with_reducible apply Below.drew | with_reducible apply below_drewN | with_reducible apply below_alloc | with_reducible refine below_set ?_ ?_ _ | (simp only [World.size_alloc, World.heap_drewN]; omega) | (simp; omega))) hb1
        obtain ⟨hc, hf⟩ := bcell hb1
        have hz := hb1.size
        simp only [World.size_alloc] at hz
        go_wp2_with fail
        refine bodyPost_ret (v := .tuple #[.agg #[.int .i64 0, .int .i64 0, .slice none 0 0], .int .i64 1]) (by simp [results, Try.results19, go_sem, hc, hf]) rfl ?_
        rw [HE.out]
        exact ⟨rfl, by repeat' (first | assumption | with_reducible exact Below.refl _ _ | with_reducible apply Below.drew | with_reducible apply below_drewN | with_reducible apply below_alloc | with_reducible refine below_set ?_ ?_ _ | (simp only [World.size_alloc, World.heap_drewN]; omega) | (simp; omega))⟩
      · have h4 : S < d := by omega
        clear hd
        go_enter Try.func19, Try.ntmps19
        go_wp2_with fail
        have cc := pondCheck_any K S A n c hn ((w.alloc (.cells #[.int .i64 K, .int .i64 S, .slice A n c] 32)).alloc (.cells #[.int .i64 0, .int .i64 0, .slice none 0 0] 32))
        rw [H1.out] at cc
        refine cc.mono ?_
        clear cc
        rintro e w1 ⟨rfl, hb1⟩
        have hw1 : Below w.heap.size w w1 := below_on (by repeat' (first | assumption | with_reducible exact Below.refl _ _ | with_reducible apply Below.drew | with_reducible apply below_drewN | with_reducible apply below_alloc | with_reducible refine below_set ?_ ?_ _ | (simp only [World.size_alloc, World.heap_drewN]; omega) | (simp; omega))) hb1
        obtain ⟨hc, hf⟩ := bcell hb1
        have hz := hb1.size
        simp only [World.size_alloc] at hz
        go_wp2_with fail
        refine bodyPost_ret (v := .tuple #[.agg #[.int .i64 0, .int .i64 0, .slice none 0 0], .int .i64 1]) (by simp [results, Try.results19, go_sem, hc, hf]) rfl ?_
        rw [HE.out]
        exact ⟨rfl, by repeat' (first | assumption | with_reducible exact Below.refl _ _ | with_reducible apply Below.drew | with_reducible apply below_drewN | with_reducible apply below_alloc | with_reducible refine below_set ?_ ?_ _ | (simp only [World.size_alloc, World.heap_drewN]; omega) | (simp; omega))⟩
  · have hp : (pondErr K S n != 0) = true := by simpa using h1
    have HE := hide (show putErr K S n d = pondErr K S n by simp [putErr, h1])
    clear he h1
    go_enter Try.func19, Try.ntmps19
    go_wp2_with fail
    refine (pondCheck_any K S A n c hn _).mono ?_
    rintro e w1 ⟨rfl, hb1⟩
    have hw1 : Below w.heap.size w w1 := below_on (by repeat' (first | assumption | with_reducible exact Below.refl _ _ | with_reducible apply Below.drew | with_reducible apply below_drewN | with_reducible apply below_alloc | with_reducible refine below_set ?_ ?_ _ | (simp only [World.size_alloc, World.heap_drewN]; omega) | (simp; omega))) hb1
    obtain ⟨hc, hf⟩ := bcell hb1
    have hz := hb1.size
    simp only [World.size_alloc] at hz
    go_wp2_with fail
    refine bodyPost_ret (v := .tuple #[.agg #[.int .i64 0, .int .i64 0, .slice none 0 0], .int .i64 (pondErr K S n)]) (by simp [results, Try.results19, go_sem, hc, hf]) rfl ?_
    rw [HE.out]
    exact ⟨rfl, by repeat' (first | assumption | with_reducible exact Below.refl _ _ | with_reducible apply Below.drew | with_reducible apply below_drewN | with_reducible apply below_alloc | with_reducible refine below_set ?_ ?_ _ | (simp only [World.size_alloc, World.heap_drewN]; omega) | (simp; omega))⟩
end Go.Proofs.Ytgejpinepkockaa
