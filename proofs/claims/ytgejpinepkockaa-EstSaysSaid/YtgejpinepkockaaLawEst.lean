/-
  Sum and Spread of est return the specified results for all arguments: the walk of the law. Conditions: those of the reading.
-/
import Derived.Test.YtgejpinepkockaaEst5
namespace Go.Proofs.Ytgejpinepkockaa
open Go.RowKit

section
variable {A1 A2 A3 : Option Addr} {n1 c1 n2 c2 n3 c3 : Nat} {vs ls rs : List Int} {w : World}
theorem sum_is {a e0 : Int} (h1 : Si w A1 n1 c1 vs) (h2 : Si w A2 n2 c2 ls) (h3 : Si w A3 n3 c3 rs) (ha : sumVal n1 n2 n3 vs ls rs = a) (he : sumErr n1 n2 n3 vs ls rs = e0) :
    Calls Try.prog 28 #[.slice A1 n1 c1, .slice A2 n2 c2, .slice A3 n3 c3] w fun e w' => e = .returned (.tuple #[.int .i64 a, .int .i64 e0]) ∧ Below w.heap.size w w' := by
  have k := estSum_any h1 h2 h3; rw [ha, he] at k; exact k
theorem refSum_is {a e0 : Int} (h1 : Si w A1 n1 c1 vs) (h2 : Si w A2 n2 c2 ls) (h3 : Si w A3 n3 c3 rs) (ha : sumVal n1 n2 n3 vs ls rs = a) (he : sumErr n1 n2 n3 vs ls rs = e0) :
    Calls Try.prog 30 #[.slice A1 n1 c1, .slice A2 n2 c2, .slice A3 n3 c3] w fun e w' => e = .returned (.tuple #[.int .i64 a, .int .i64 e0]) ∧ Below w.heap.size w w' := by
  have k := refSum_any h1 h2 h3; rw [ha, he] at k; exact k
theorem spread_is {a e0 : Int} (h1 : Si w A1 n1 c1 vs) (h2 : Si w A2 n2 c2 ls) (ha : spVal n1 n2 vs ls = a) (he : spErr n1 n2 vs ls = e0) :
    Calls Try.prog 29 #[.slice A1 n1 c1, .slice A2 n2 c2] w fun e w' => e = .returned (.tuple #[.int .i64 a, .int .i64 e0]) ∧ Below w.heap.size w w' := by
  have k := estSpread_any h1 h2; rw [ha, he] at k; exact k
theorem refSpread_is {a e0 : Int} (h1 : Si w A1 n1 c1 vs) (h2 : Si w A2 n2 c2 ls) (ha : spVal n1 n2 vs ls = a) (he : spErr n1 n2 vs ls = e0) :
    Calls Try.prog 31 #[.slice A1 n1 c1, .slice A2 n2 c2] w fun e w' => e = .returned (.tuple #[.int .i64 a, .int .i64 e0]) ∧ Below w.heap.size w w' := by
  have k := refSpread_any h1 h2; rw [ha, he] at k; exact k
end
theorem sp_one : spVal 1 1 [3] [1] = 9 ∧ spErr 1 1 [3] [1] = 0 := by decide

set_option maxRecDepth 20000 in
set_option maxHeartbeats 1600000 in
theorem law_est (A1 : Option Addr) (n1 c1 : Nat) (vs : List Int) (A2 : Option Addr) (n2 c2 : Nat) (ls : List Int) (A3 : Option Addr) (n3 c3 : Nat) (rs : List Int) (w : World)
    (h1 : Si w A1 n1 c1 vs) (h2 : Si w A2 n2 c2 ls) (h3 : Si w A3 n3 c3 rs) :
    Calls Try.prog 7 #[.slice A1 n1 c1, .slice A2 n2 c2, .slice A3 n3 c3] w fun e w' => e = .returned (.bool true) ∧ Below w.heap.size w w' := by
  obtain ⟨a, ha⟩ : ∃ a, sumVal n1 n2 n3 vs ls rs = a := ⟨_, rfl⟩
  obtain ⟨e0, he⟩ : ∃ e0, sumErr n1 n2 n3 vs ls rs = e0 := ⟨_, rfl⟩
  obtain ⟨b, hbv⟩ : ∃ b, spVal n1 n2 vs ls = b := ⟨_, rfl⟩
  obtain ⟨f0, hf⟩ : ∃ f0, spErr n1 n2 vs ls = f0 := ⟨_, rfl⟩
  have HA := hide ha
  have HE := hide he
  have HB := hide hbv
  have HF := hide hf
  clear ha he hbv hf
  go_enter Try.func7, Try.ntmps7
  go_wp2_with fail
  refine (sum_is h1 h2 h3 HA.out HE.out).mono ?_
  rintro e w1 ⟨rfl, hb1⟩
  have kw1 : Below w.heap.size w w1 := below_on (by repeat' (first | assumption | with_reducible exact Below.refl _ _ | with_reducible apply Below.drew | with_reducible apply below_drewN | with_reducible apply below_alloc | with_reducible refine below_set ?_ ?_ _ | (simp only [World.size_alloc, World.heap_drewN]; omega) | (simp; omega))) hb1
  have zw1 := kw1.size
  have sx_1 := (h1).on kw1
  have sy_1 := (h2).on kw1
  have sz_1 := (h3).on kw1
  try simp only [World.size_alloc, World.heap_drewN] at zw1
  go_wp2_with fail
  refine (spread_is sx_1 sy_1 HB.out HF.out).mono ?_
  rintro e w2 ⟨rfl, hb2⟩
  have kw2 : Below w.heap.size w w2 := below_on (by repeat' (first | assumption | with_reducible exact Below.refl _ _ | with_reducible apply Below.drew | with_reducible apply below_drewN | with_reducible apply below_alloc | with_reducible refine below_set ?_ ?_ _ | (simp only [World.size_alloc, World.heap_drewN]; omega) | (simp; omega))) hb2
  have zw2 := kw2.size
  have sx_2 := (h1).on kw2
  have sy_2 := (h2).on kw2
  have sz_2 := (h3).on kw2
  try simp only [World.size_alloc, World.heap_drewN] at zw2
  go_wp2_with fail
  refine (spread_is (vs := [3]) (ls := [1]) (Sl.blk 1 1 (e := 3) (by simp only [heap_alloc_get, World.size_alloc]; simp [ints]) rfl (by simp [maxLen])) (Sl.blk 1 1 (e := 3) (by simp only [heap_alloc_get, World.size_alloc]; simp [ints]) rfl (by simp [maxLen])) sp_one.1 sp_one.2).mono ?_
  rintro e w3 ⟨rfl, hb3⟩
  have kw3 : Below w.heap.size w w3 := below_on (by repeat' (first | assumption | with_reducible exact Below.refl _ _ | with_reducible apply Below.drew | with_reducible apply below_drewN | with_reducible apply below_alloc | with_reducible refine below_set ?_ ?_ _ | (simp only [World.size_alloc, World.heap_drewN]; omega) | (simp; omega))) hb3
  have zw3 := kw3.size
  have sx_3 := (h1).on kw3
  have sy_3 := (h2).on kw3
  have sz_3 := (h3).on kw3
  try simp only [World.size_alloc, World.heap_drewN] at zw3
  go_wp2_with fail
  refine (refSum_is sx_3 sy_3 sz_3 HA.out HE.out).mono ?_
  rintro e w4 ⟨rfl, hb4⟩
  have kw4 : Below w.heap.size w w4 := below_on (by repeat' (first | assumption | with_reducible exact Below.refl _ _ | with_reducible apply Below.drew | with_reducible apply below_drewN | with_reducible apply below_alloc | with_reducible refine below_set ?_ ?_ _ | (simp only [World.size_alloc, World.heap_drewN]; omega) | (simp; omega))) hb4
  have zw4 := kw4.size
  have sx_4 := (h1).on kw4
  have sy_4 := (h2).on kw4
  have sz_4 := (h3).on kw4
  try simp only [World.size_alloc, World.heap_drewN] at zw4
  go_wp2_with fail
  refine (refSpread_is sx_4 sy_4 HB.out HF.out).mono ?_
  rintro e w5 ⟨rfl, hb5⟩
  have kw5 : Below w.heap.size w w5 := below_on (by repeat' (first | assumption | with_reducible exact Below.refl _ _ | with_reducible apply Below.drew | with_reducible apply below_drewN | with_reducible apply below_alloc | with_reducible refine below_set ?_ ?_ _ | (simp only [World.size_alloc, World.heap_drewN]; omega) | (simp; omega))) hb5
  have zw5 := kw5.size
  have sx_5 := (h1).on kw5
  have sy_5 := (h2).on kw5
  have sz_5 := (h3).on kw5
  try simp only [World.size_alloc, World.heap_drewN] at zw5
  go_wp2_with fail
  go_ret
  exact ⟨rfl, kw5⟩
end Go.Proofs.Ytgejpinepkockaa
