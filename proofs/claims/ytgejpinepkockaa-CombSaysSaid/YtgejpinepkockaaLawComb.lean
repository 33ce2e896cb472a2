/-
  CombSays: the walk of the law, case by case. Conditions: the slice reads as a list of numbers.
-/
import Derived.Test.YtgejpinepkockaaComb4
import Derived.Test.YtgejpinepkockaaEq
import Derived.Test.YtgejpinepkockaaFunc
import Derived.Test.YtgejpinepkockaaPond3
namespace Go.Proofs.Ytgejpinepkockaa
open Go.RowKit

theorem comb_one : combErr 1 [-1] = 1 := by decide
theorem combCheck_is {A : Option Addr} {n c : Nat} {xs : List Int} {w : World} {E : Int} (h1 : Si w A n c xs) (h : combErr n xs = E) :
    Calls Try.prog 40 #[.slice A n c] w fun e w' => e = .returned (.int .i64 E) ∧ Below w.heap.size w w' := by
  have k := combCheck_any A n c xs w h1; rw [h] at k; exact k
theorem rcomb_is {A : Option Addr} {n c : Nat} {xs : List Int} {w : World} {E : Int} (h1 : Si w A n c xs) (h : combErr n xs = E) :
    Calls Try.prog 39 #[.slice A n c] w fun e w' => e = .returned (.int .i64 E) ∧ Below w.heap.size w w' := by
  have k := rcomb_any A n c xs w h1; rw [h] at k; exact k
theorem same_below {w w' : World} (h : w = w') : Below w.heap.size w w' := by subst h; exact Below.refl _ _
theorem some_argB (k r : Int) (h : k < 0 ∨ 30 < k) (w : World) : Calls Try.prog 38 #[.int .i64 k, .int .i64 r] w fun e w' => e = .returned (.tuple #[.slice none 0 0, .int .i64 1]) ∧ Below w.heap.size w w' :=
  (some_arg k r h w).mono fun _ _ h => ⟨h.1, same_below h.2⟩
theorem some_noneB (k : Nat) (r : Int) (hk : k ≤ 30) (h : r < 0 ∨ (bin 30 k : Int) ≤ r) (w : World) : Calls Try.prog 38 #[.int .i64 k, .int .i64 r] w fun e w' => e = .returned (.tuple #[.slice none 0 0, .int .i64 4]) ∧ Below w.heap.size w w' :=
  (some_none k r hk h w).mono fun _ _ h => ⟨h.1, same_below h.2⟩
theorem ways_okB (n k : Nat) (hk : k ≤ n) (hn : n ≤ 30) (w : World) : Calls Try.prog 36 #[.int .i64 n, .int .i64 k] w fun e w' => e = .returned (.tuple #[.int .i64 (bin n k), .int .i64 0]) ∧ Below w.heap.size w w' :=
  (ways_ok n k hk hn w).mono fun _ _ h => ⟨h.1, same_below h.2⟩
theorem ways_noB (n k : Int) (h : ¬ (0 ≤ n ∧ n ≤ 30 ∧ 0 ≤ k ∧ k ≤ n)) (w : World) : Calls Try.prog 36 #[.int .i64 n, .int .i64 k] w fun e w' => e = .returned (.tuple #[.int .i64 0, .int .i64 1]) ∧ Below w.heap.size w w' :=
  (ways_no n k h w).mono fun _ _ h => ⟨h.1, same_below h.2⟩

section
variable {A : Option Addr} {l c : Nat} {zs : List Int} {w : World}
set_option maxRecDepth 100000 in
set_option maxHeartbeats 3200000 in
theorem law_comb_ok_z_neg (h : Si w A l c zs) (n k : Nat) (hk : k ≤ n) (hn : n ≤ 30) (he : combErr l zs = 0) (r : Int) (hr : r < 0) :
    Calls Try.prog 9 #[.int .i64 n, .int .i64 k, .slice A l c, .int .i64 r] w fun e w' => e = .returned (.bool true) ∧ Below w.heap.size w w' := by
  have hm := h.len_max
  have i1 : (n : Int) ≤ 30 := by omega
  have i2 : (k : Int) ≤ (n : Int) := by omega
  have hk30 : k ≤ 30 := by omega
  have HE := hide he
  clear he
  have ik : (k : Int) ≤ 30 := by omega
  have HS := hide (show r < 0 ∨ (bin 30 k : Int) ≤ r from .inl hr)
  go_enter Try.func9, Try.ntmps9
  go_wp2_with fail
  refine (ways_okB n k hk hn _).mono ?_
  rintro e w1 ⟨rfl, hb1⟩
  have kw1 : Below w.heap.size w w1 := below_on (by repeat' (first | assumption | with_reducible exact Below.refl _ _ | with_reducible apply Below.drew | with_reducible apply below_drewN | with_reducible apply below_alloc | with_reducible refine below_set ?_ ?_ _ | (simp only [World.size_alloc, World.heap_drewN]; omega) | (simp; omega))) hb1
  have zw1 := kw1.size
  have sl_1 := (h).on kw1
  try simp only [World.size_alloc, World.heap_drewN] at zw1
  go_wp2_with fail
  refine (rank_ok sl_1 HE.out).mono ?_
  rintro e w2 ⟨rfl, hb2⟩
  have kw2 : Below w.heap.size w w2 := below_on (by repeat' (first | assumption | with_reducible exact Below.refl _ _ | with_reducible apply Below.drew | with_reducible apply below_drewN | with_reducible apply below_alloc | with_reducible refine below_set ?_ ?_ _ | (simp only [World.size_alloc, World.heap_drewN]; omega) | (simp; omega))) hb2
  have zw2 := kw2.size
  have sl_2 := (h).on kw2
  try simp only [World.size_alloc, World.heap_drewN] at zw2
  go_wp2_with fail
  refine (some_noneB k r hk30 HS.out _).mono ?_
  rintro e w3 ⟨rfl, hb3⟩
  have kw3 : Below w.heap.size w w3 := below_on (by repeat' (first | assumption | with_reducible exact Below.refl _ _ | with_reducible apply Below.drew | with_reducible apply below_drewN | with_reducible apply below_alloc | with_reducible refine below_set ?_ ?_ _ | (simp only [World.size_alloc, World.heap_drewN]; omega) | (simp; omega))) hb3
  have zw3 := kw3.size
  have sl_3 := (h).on kw3
  try simp only [World.size_alloc, World.heap_drewN] at zw3
  go_wp2_with fail
  refine (rcomb_is sl_3 HE.out).mono ?_
  rintro e w4 ⟨rfl, hb4⟩
  have kw4 : Below w.heap.size w w4 := below_on (by repeat' (first | assumption | with_reducible exact Below.refl _ _ | with_reducible apply Below.drew | with_reducible apply below_drewN | with_reducible apply below_alloc | with_reducible refine below_set ?_ ?_ _ | (simp only [World.size_alloc, World.heap_drewN]; omega) | (simp; omega))) hb4
  have zw4 := kw4.size
  have sl_4 := (h).on kw4
  try simp only [World.size_alloc, World.heap_drewN] at zw4
  go_wp2_with fail
  refine (combCheck_is sl_4 HE.out).mono ?_
  rintro e w5 ⟨rfl, hb5⟩
  have kw5 : Below w.heap.size w w5 := below_on (by repeat' (first | assumption | with_reducible exact Below.refl _ _ | with_reducible apply Below.drew | with_reducible apply below_drewN | with_reducible apply below_alloc | with_reducible refine below_set ?_ ?_ _ | (simp only [World.size_alloc, World.heap_drewN]; omega) | (simp; omega))) hb5
  have zw5 := kw5.size
  have sl_5 := (h).on kw5
  try simp only [World.size_alloc, World.heap_drewN] at zw5
  go_wp2_with fail
  refine (combCheck_is (xs := [-1]) (Sl.blk 1 1 (e := 3) (by simp only [heap_alloc_get, World.size_alloc]; simp [ints]) rfl (by simp [maxLen])) comb_one).mono ?_
  rintro e w6 ⟨rfl, hb6⟩
  have kw6 : Below w.heap.size w w6 := below_on (by repeat' (first | assumption | with_reducible exact Below.refl _ _ | with_reducible apply Below.drew | with_reducible apply below_drewN | with_reducible apply below_alloc | with_reducible refine below_set ?_ ?_ _ | (simp only [World.size_alloc, World.heap_drewN]; omega) | (simp; omega))) hb6
  have zw6 := kw6.size
  have sl_6 := (h).on kw6
  try simp only [World.size_alloc, World.heap_drewN] at zw6
  go_wp2_with fail
  refine (rways_any n k hn _).mono ?_
  rintro e w7 ⟨rfl, hb7⟩
  have kw7 : Below w.heap.size w w7 := below_on (by repeat' (first | assumption | with_reducible exact Below.refl _ _ | with_reducible apply Below.drew | with_reducible apply below_drewN | with_reducible apply below_alloc | with_reducible refine below_set ?_ ?_ _ | (simp only [World.size_alloc, World.heap_drewN]; omega) | (simp; omega))) hb7
  have zw7 := kw7.size
  have sl_7 := (h).on kw7
  try simp only [World.size_alloc, World.heap_drewN] at zw7
  go_wp2_with fail
  refine (crank_any sl_7 HE.out).mono ?_
  rintro e w8 ⟨rfl, hb8⟩
  have kw8 : Below w.heap.size w w8 := below_on (by repeat' (first | assumption | with_reducible exact Below.refl _ _ | with_reducible apply Below.drew | with_reducible apply below_drewN | with_reducible apply below_alloc | with_reducible refine below_set ?_ ?_ _ | (simp only [World.size_alloc, World.heap_drewN]; omega) | (simp; omega))) hb8
  have zw8 := kw8.size
  have sl_8 := (h).on kw8
  try simp only [World.size_alloc, World.heap_drewN] at zw8
  go_wp2_with fail
  go_ret
  exact ⟨rfl, kw8⟩
set_option maxRecDepth 100000 in
set_option maxHeartbeats 3200000 in
theorem law_comb_ok_z_big (h : Si w A l c zs) (n k : Nat) (hk : k ≤ n) (hn : n ≤ 30) (he : combErr l zs = 0) (r : Int) (hr : 0 ≤ r) (hr2 : (bin 30 k : Int) ≤ r) :
    Calls Try.prog 9 #[.int .i64 n, .int .i64 k, .slice A l c, .int .i64 r] w fun e w' => e = .returned (.bool true) ∧ Below w.heap.size w w' := by
  have hm := h.len_max
  have i1 : (n : Int) ≤ 30 := by omega
  have i2 : (k : Int) ≤ (n : Int) := by omega
  have hk30 : k ≤ 30 := by omega
  have HE := hide he
  clear he
  have ik : (k : Int) ≤ 30 := by omega
  have HS := hide (show r < 0 ∨ (bin 30 k : Int) ≤ r from .inr hr2)
  have hbb := fun w => rways_any 30 k (by omega) w
  have hr3 : (bin 30 k : Int) ≤ r := by omega
  clear hr2
  obtain ⟨b, hbe⟩ : ∃ b, bin 30 k = b := ⟨_, rfl⟩
  rw [hbe] at hbb hr3
  have HB := hide hbb
  clear hbb hbe
  go_enter Try.func9, Try.ntmps9
  go_wp2_with fail
  refine (ways_okB n k hk hn _).mono ?_
  rintro e w1 ⟨rfl, hb1⟩
  have kw1 : Below w.heap.size w w1 := below_on (by repeat' (first | assumption | with_reducible exact Below.refl _ _ | with_reducible apply Below.drew | with_reducible apply below_drewN | with_reducible apply below_alloc | with_reducible refine below_set ?_ ?_ _ | (simp only [World.size_alloc, World.heap_drewN]; omega) | (simp; omega))) hb1
  have zw1 := kw1.size
  have sl_1 := (h).on kw1
  try simp only [World.size_alloc, World.heap_drewN] at zw1
  go_wp2_with fail
  refine (rank_ok sl_1 HE.out).mono ?_
  rintro e w2 ⟨rfl, hb2⟩
  have kw2 : Below w.heap.size w w2 := below_on (by repeat' (first | assumption | with_reducible exact Below.refl _ _ | with_reducible apply Below.drew | with_reducible apply below_drewN | with_reducible apply below_alloc | with_reducible refine below_set ?_ ?_ _ | (simp only [World.size_alloc, World.heap_drewN]; omega) | (simp; omega))) hb2
  have zw2 := kw2.size
  have sl_2 := (h).on kw2
  try simp only [World.size_alloc, World.heap_drewN] at zw2
  go_wp2_with fail
  refine (some_noneB k r hk30 HS.out _).mono ?_
  rintro e w3 ⟨rfl, hb3⟩
  have kw3 : Below w.heap.size w w3 := below_on (by repeat' (first | assumption | with_reducible exact Below.refl _ _ | with_reducible apply Below.drew | with_reducible apply below_drewN | with_reducible apply below_alloc | with_reducible refine below_set ?_ ?_ _ | (simp only [World.size_alloc, World.heap_drewN]; omega) | (simp; omega))) hb3
  have zw3 := kw3.size
  have sl_3 := (h).on kw3
  try simp only [World.size_alloc, World.heap_drewN] at zw3
  go_wp2_with fail
  refine (rcomb_is sl_3 HE.out).mono ?_
  rintro e w4 ⟨rfl, hb4⟩
  have kw4 : Below w.heap.size w w4 := below_on (by repeat' (first | assumption | with_reducible exact Below.refl _ _ | with_reducible apply Below.drew | with_reducible apply below_drewN | with_reducible apply below_alloc | with_reducible refine below_set ?_ ?_ _ | (simp only [World.size_alloc, World.heap_drewN]; omega) | (simp; omega))) hb4
  have zw4 := kw4.size
  have sl_4 := (h).on kw4
  try simp only [World.size_alloc, World.heap_drewN] at zw4
  go_wp2_with fail
  refine (combCheck_is sl_4 HE.out).mono ?_
  rintro e w5 ⟨rfl, hb5⟩
  have kw5 : Below w.heap.size w w5 := below_on (by repeat' (first | assumption | with_reducible exact Below.refl _ _ | with_reducible apply Below.drew | with_reducible apply below_drewN | with_reducible apply below_alloc | with_reducible refine below_set ?_ ?_ _ | (simp only [World.size_alloc, World.heap_drewN]; omega) | (simp; omega))) hb5
  have zw5 := kw5.size
  have sl_5 := (h).on kw5
  try simp only [World.size_alloc, World.heap_drewN] at zw5
  go_wp2_with fail
  refine (combCheck_is (xs := [-1]) (Sl.blk 1 1 (e := 3) (by simp only [heap_alloc_get, World.size_alloc]; simp [ints]) rfl (by simp [maxLen])) comb_one).mono ?_
  rintro e w6 ⟨rfl, hb6⟩
  have kw6 : Below w.heap.size w w6 := below_on (by repeat' (first | assumption | with_reducible exact Below.refl _ _ | with_reducible apply Below.drew | with_reducible apply below_drewN | with_reducible apply below_alloc | with_reducible refine below_set ?_ ?_ _ | (simp only [World.size_alloc, World.heap_drewN]; omega) | (simp; omega))) hb6
  have zw6 := kw6.size
  have sl_6 := (h).on kw6
  try simp only [World.size_alloc, World.heap_drewN] at zw6
  go_wp2_with fail
  refine (rways_any n k hn _).mono ?_
  rintro e w7 ⟨rfl, hb7⟩
  have kw7 : Below w.heap.size w w7 := below_on (by repeat' (first | assumption | with_reducible exact Below.refl _ _ | with_reducible apply Below.drew | with_reducible apply below_drewN | with_reducible apply below_alloc | with_reducible refine below_set ?_ ?_ _ | (simp only [World.size_alloc, World.heap_drewN]; omega) | (simp; omega))) hb7
  have zw7 := kw7.size
  have sl_7 := (h).on kw7
  try simp only [World.size_alloc, World.heap_drewN] at zw7
  go_wp2_with fail
  refine (crank_any sl_7 HE.out).mono ?_
  rintro e w8 ⟨rfl, hb8⟩
  have kw8 : Below w.heap.size w w8 := below_on (by repeat' (first | assumption | with_reducible exact Below.refl _ _ | with_reducible apply Below.drew | with_reducible apply below_drewN | with_reducible apply below_alloc | with_reducible refine below_set ?_ ?_ _ | (simp only [World.size_alloc, World.heap_drewN]; omega) | (simp; omega))) hb8
  have zw8 := kw8.size
  have sl_8 := (h).on kw8
  try simp only [World.size_alloc, World.heap_drewN] at zw8
  go_wp2_with fail
  refine (HB.out _).mono ?_
  rintro e w9 ⟨rfl, hb9⟩
  have kw9 : Below w.heap.size w w9 := below_on (by repeat' (first | assumption | with_reducible exact Below.refl _ _ | with_reducible apply Below.drew | with_reducible apply below_drewN | with_reducible apply below_alloc | with_reducible refine below_set ?_ ?_ _ | (simp only [World.size_alloc, World.heap_drewN]; omega) | (simp; omega))) hb9
  have zw9 := kw9.size
  have sl_9 := (h).on kw9
  try simp only [World.size_alloc, World.heap_drewN] at zw9
  go_wp2_with fail
  go_ret
  exact ⟨rfl, kw9⟩
set_option maxRecDepth 100000 in
set_option maxHeartbeats 3200000 in
theorem law_comb_ok_z_ok (h : Si w A l c zs) (n k : Nat) (hk : k ≤ n) (hn : n ≤ 30) (he : combErr l zs = 0) (r : Nat) (hr2 : r < bin 30 k) :
    Calls Try.prog 9 #[.int .i64 n, .int .i64 k, .slice A l c, .int .i64 r] w fun e w' => e = .returned (.bool true) ∧ Below w.heap.size w w' := by
  have hm := h.len_max
  have i1 : (n : Int) ≤ 30 := by omega
  have i2 : (k : Int) ≤ (n : Int) := by omega
  have hk30 : k ≤ 30 := by omega
  have HE := hide he
  clear he
  have ik : (k : Int) ≤ 30 := by omega
  have HR := hide hr2
  have hbb := fun w => rways_any 30 k (by omega) w
  have hr3 : (r : Int) < (bin 30 k : Int) := by omega
  clear hr2
  obtain ⟨b, hbe⟩ : ∃ b, bin 30 k = b := ⟨_, rfl⟩
  rw [hbe] at hbb hr3
  have HB := hide hbb
  clear hbb hbe
  go_enter Try.func9, Try.ntmps9
  go_wp2_with fail
  refine (ways_okB n k hk hn _).mono ?_
  rintro e w1 ⟨rfl, hb1⟩
  have kw1 : Below w.heap.size w w1 := below_on (by repeat' (first | assumption | with_reducible exact Below.refl _ _ | with_reducible apply Below.drew | with_reducible apply below_drewN | with_reducible apply below_alloc | with_reducible refine below_set ?_ ?_ _ | (simp only [World.size_alloc, World.heap_drewN]; omega) | (simp; omega))) hb1
  have zw1 := kw1.size
  have sl_1 := (h).on kw1
  try simp only [World.size_alloc, World.heap_drewN] at zw1
  go_wp2_with fail
  refine (rank_ok sl_1 HE.out).mono ?_
  rintro e w2 ⟨rfl, hb2⟩
  have kw2 : Below w.heap.size w w2 := below_on (by repeat' (first | assumption | with_reducible exact Below.refl _ _ | with_reducible apply Below.drew | with_reducible apply below_drewN | with_reducible apply below_alloc | with_reducible refine below_set ?_ ?_ _ | (simp only [World.size_alloc, World.heap_drewN]; omega) | (simp; omega))) hb2
  have zw2 := kw2.size
  have sl_2 := (h).on kw2
  try simp only [World.size_alloc, World.heap_drewN] at zw2
  go_wp2_with fail
  refine (some_ok k r hk30 HR.out _).mono ?_
  rintro e w3 ⟨A3, c3, ys, rfl, hy, hsi, hb3⟩
  have kw3 : Below w.heap.size w w3 := below_on (by repeat' (first | assumption | with_reducible exact Below.refl _ _ | with_reducible apply Below.drew | with_reducible apply below_drewN | with_reducible apply below_alloc | with_reducible refine below_set ?_ ?_ _ | (simp only [World.size_alloc, World.heap_drewN]; omega) | (simp; omega))) hb3
  have zw3 := kw3.size
  have sl_3 := (h).on kw3
  try simp only [World.size_alloc, World.heap_drewN] at zw3
  have HYS := hide hy
  clear hy
  go_wp2_with fail
  refine (rcomb_is sl_3 HE.out).mono ?_
  rintro e w4 ⟨rfl, hb4⟩
  have kw4 : Below w.heap.size w w4 := below_on (by repeat' (first | assumption | with_reducible exact Below.refl _ _ | with_reducible apply Below.drew | with_reducible apply below_drewN | with_reducible apply below_alloc | with_reducible refine below_set ?_ ?_ _ | (simp only [World.size_alloc, World.heap_drewN]; omega) | (simp; omega))) hb4
  have zw4 := kw4.size
  have kr4 : Below w3.heap.size w3 w4 := below_on (by repeat' (first | assumption | with_reducible exact Below.refl _ _ | with_reducible apply Below.drew | with_reducible apply below_drewN | with_reducible apply below_alloc | with_reducible refine below_set ?_ ?_ _ | (simp only [World.size_alloc, World.heap_drewN]; omega) | (simp; omega))) hb4
  have zr4 := kr4.size
  have sl_4 := (h).on kw4
  try simp only [World.size_alloc, World.heap_drewN] at zw4 zr4
  go_wp2_with fail
  refine (combCheck_is sl_4 HE.out).mono ?_
  rintro e w5 ⟨rfl, hb5⟩
  have kw5 : Below w.heap.size w w5 := below_on (by repeat' (first | assumption | with_reducible exact Below.refl _ _ | with_reducible apply Below.drew | with_reducible apply below_drewN | with_reducible apply below_alloc | with_reducible refine below_set ?_ ?_ _ | (simp only [World.size_alloc, World.heap_drewN]; omega) | (simp; omega))) hb5
  have zw5 := kw5.size
  have kr5 : Below w3.heap.size w3 w5 := below_on (by repeat' (first | assumption | with_reducible exact Below.refl _ _ | with_reducible apply Below.drew | with_reducible apply below_drewN | with_reducible apply below_alloc | with_reducible refine below_set ?_ ?_ _ | (simp only [World.size_alloc, World.heap_drewN]; omega) | (simp; omega))) hb5
  have zr5 := kr5.size
  have sl_5 := (h).on kw5
  try simp only [World.size_alloc, World.heap_drewN] at zw5 zr5
  go_wp2_with fail
  refine (combCheck_is (xs := [-1]) (Sl.blk 1 1 (e := 3) (by simp only [heap_alloc_get, World.size_alloc]; simp [ints]) rfl (by simp [maxLen])) comb_one).mono ?_
  rintro e w6 ⟨rfl, hb6⟩
  have kw6 : Below w.heap.size w w6 := below_on (by repeat' (first | assumption | with_reducible exact Below.refl _ _ | with_reducible apply Below.drew | with_reducible apply below_drewN | with_reducible apply below_alloc | with_reducible refine below_set ?_ ?_ _ | (simp only [World.size_alloc, World.heap_drewN]; omega) | (simp; omega))) hb6
  have zw6 := kw6.size
  have kr6 : Below w3.heap.size w3 w6 := below_on (by repeat' (first | assumption | with_reducible exact Below.refl _ _ | with_reducible apply Below.drew | with_reducible apply below_drewN | with_reducible apply below_alloc | with_reducible refine below_set ?_ ?_ _ | (simp only [World.size_alloc, World.heap_drewN]; omega) | (simp; omega))) hb6
  have zr6 := kr6.size
  have sl_6 := (h).on kw6
  try simp only [World.size_alloc, World.heap_drewN] at zw6 zr6
  go_wp2_with fail
  refine (rways_any n k hn _).mono ?_
  rintro e w7 ⟨rfl, hb7⟩
  have kw7 : Below w.heap.size w w7 := below_on (by repeat' (first | assumption | with_reducible exact Below.refl _ _ | with_reducible apply Below.drew | with_reducible apply below_drewN | with_reducible apply below_alloc | with_reducible refine below_set ?_ ?_ _ | (simp only [World.size_alloc, World.heap_drewN]; omega) | (simp; omega))) hb7
  have zw7 := kw7.size
  have kr7 : Below w3.heap.size w3 w7 := below_on (by repeat' (first | assumption | with_reducible exact Below.refl _ _ | with_reducible apply Below.drew | with_reducible apply below_drewN | with_reducible apply below_alloc | with_reducible refine below_set ?_ ?_ _ | (simp only [World.size_alloc, World.heap_drewN]; omega) | (simp; omega))) hb7
  have zr7 := kr7.size
  have sl_7 := (h).on kw7
  try simp only [World.size_alloc, World.heap_drewN] at zw7 zr7
  go_wp2_with fail
  refine (crank_any sl_7 HE.out).mono ?_
  rintro e w8 ⟨rfl, hb8⟩
  have kw8 : Below w.heap.size w w8 := below_on (by repeat' (first | assumption | with_reducible exact Below.refl _ _ | with_reducible apply Below.drew | with_reducible apply below_drewN | with_reducible apply below_alloc | with_reducible refine below_set ?_ ?_ _ | (simp only [World.size_alloc, World.heap_drewN]; omega) | (simp; omega))) hb8
  have zw8 := kw8.size
  have kr8 : Below w3.heap.size w3 w8 := below_on (by repeat' (first | assumption | with_reducible exact Below.refl _ _ | with_reducible apply Below.drew | with_reducible apply below_drewN | with_reducible apply below_alloc | with_reducible refine below_set ?_ ?_ _ | (simp only [World.size_alloc, World.heap_drewN]; omega) | (simp; omega))) hb8
  have zr8 := kr8.size
  have sl_8 := (h).on kw8
  try simp only [World.size_alloc, World.heap_drewN] at zw8 zr8
  go_wp2_with fail
  refine (HB.out _).mono ?_
  rintro e w9 ⟨rfl, hb9⟩
  have kw9 : Below w.heap.size w w9 := below_on (by repeat' (first | assumption | with_reducible exact Below.refl _ _ | with_reducible apply Below.drew | with_reducible apply below_drewN | with_reducible apply below_alloc | with_reducible refine below_set ?_ ?_ _ | (simp only [World.size_alloc, World.heap_drewN]; omega) | (simp; omega))) hb9
  have zw9 := kw9.size
  have kr9 : Below w3.heap.size w3 w9 := below_on (by repeat' (first | assumption | with_reducible exact Below.refl _ _ | with_reducible apply Below.drew | with_reducible apply below_drewN | with_reducible apply below_alloc | with_reducible refine below_set ?_ ?_ _ | (simp only [World.size_alloc, World.heap_drewN]; omega) | (simp; omega))) hb9
  have zr9 := kr9.size
  have sl_9 := (h).on kw9
  try simp only [World.size_alloc, World.heap_drewN] at zw9 zr9
  go_wp2_with fail
  refine (rsome_any k r _ hk30 HR.out).mono ?_
  rintro e w10 ⟨A5, c5, xs, rfl, hx, hox, hb10⟩
  have kw10 : Below w.heap.size w w10 := below_on (by repeat' (first | assumption | with_reducible exact Below.refl _ _ | with_reducible apply Below.drew | with_reducible apply below_drewN | with_reducible apply below_alloc | with_reducible refine below_set ?_ ?_ _ | (simp only [World.size_alloc, World.heap_drewN]; omega) | (simp; omega))) hb10
  have zw10 := kw10.size
  have kr10 : Below w3.heap.size w3 w10 := below_on (by repeat' (first | assumption | with_reducible exact Below.refl _ _ | with_reducible apply Below.drew | with_reducible apply below_drewN | with_reducible apply below_alloc | with_reducible refine below_set ?_ ?_ _ | (simp only [World.size_alloc, World.heap_drewN]; omega) | (simp; omega))) hb10
  have zr10 := kr10.size
  have sl_10 := (h).on kw10
  try simp only [World.size_alloc, World.heap_drewN] at zw10 zr10
  obtain rfl := SomOf.one HYS.out hx
  clear hx
  go_wp2_with fail
  refine (equal_yes A3 _ k c3 _ _ _ (hsi.on kr10) hox.sl).mono ?_
  rintro e wz ⟨rfl, q, rfl⟩
  have kz : Below w.heap.size w (w10.drewN q) := below_drewN kw10 q
  go_wp2_with fail
  go_ret
  exact ⟨rfl, kz⟩
set_option maxRecDepth 100000 in
set_option maxHeartbeats 3200000 in
theorem law_comb_ok_nz_neg (h : Si w A l c zs) (n k : Nat) (hk : k ≤ n) (hn : n ≤ 30) {E : Int} (he : combErr l zs = E) (hne : ¬ E = 0) (r : Int) (hr : r < 0) :
    Calls Try.prog 9 #[.int .i64 n, .int .i64 k, .slice A l c, .int .i64 r] w fun e w' => e = .returned (.bool true) ∧ Below w.heap.size w w' := by
  have hm := h.len_max
  have i1 : (n : Int) ≤ 30 := by omega
  have i2 : (k : Int) ≤ (n : Int) := by omega
  have hk30 : k ≤ 30 := by omega
  have HE := hide he
  have HNE := hide hne
  have j1 : (E != 0) = true := by simpa using hne
  clear he hne
  have ik : (k : Int) ≤ 30 := by omega
  have HS := hide (show r < 0 ∨ (bin 30 k : Int) ≤ r from .inl hr)
  go_enter Try.func9, Try.ntmps9
  go_wp2_with fail
  refine (ways_okB n k hk hn _).mono ?_
  rintro e w1 ⟨rfl, hb1⟩
  have kw1 : Below w.heap.size w w1 := below_on (by repeat' (first | assumption | with_reducible exact Below.refl _ _ | with_reducible apply Below.drew | with_reducible apply below_drewN | with_reducible apply below_alloc | with_reducible refine below_set ?_ ?_ _ | (simp only [World.size_alloc, World.heap_drewN]; omega) | (simp; omega))) hb1
  have zw1 := kw1.size
  have sl_1 := (h).on kw1
  try simp only [World.size_alloc, World.heap_drewN] at zw1
  go_wp2_with fail
  refine (rank_bad sl_1 HE.out HNE.out).mono ?_
  rintro e w2 ⟨rfl, hb2⟩
  have kw2 : Below w.heap.size w w2 := below_on (by repeat' (first | assumption | with_reducible exact Below.refl _ _ | with_reducible apply Below.drew | with_reducible apply below_drewN | with_reducible apply below_alloc | with_reducible refine below_set ?_ ?_ _ | (simp only [World.size_alloc, World.heap_drewN]; omega) | (simp; omega))) hb2
  have zw2 := kw2.size
  have sl_2 := (h).on kw2
  try simp only [World.size_alloc, World.heap_drewN] at zw2
  go_wp2_with fail
  refine (some_noneB k r hk30 HS.out _).mono ?_
  rintro e w3 ⟨rfl, hb3⟩
  have kw3 : Below w.heap.size w w3 := below_on (by repeat' (first | assumption | with_reducible exact Below.refl _ _ | with_reducible apply Below.drew | with_reducible apply below_drewN | with_reducible apply below_alloc | with_reducible refine below_set ?_ ?_ _ | (simp only [World.size_alloc, World.heap_drewN]; omega) | (simp; omega))) hb3
  have zw3 := kw3.size
  have sl_3 := (h).on kw3
  try simp only [World.size_alloc, World.heap_drewN] at zw3
  go_wp2_with fail
  refine (rcomb_is sl_3 HE.out).mono ?_
  rintro e w4 ⟨rfl, hb4⟩
  have kw4 : Below w.heap.size w w4 := below_on (by repeat' (first | assumption | with_reducible exact Below.refl _ _ | with_reducible apply Below.drew | with_reducible apply below_drewN | with_reducible apply below_alloc | with_reducible refine below_set ?_ ?_ _ | (simp only [World.size_alloc, World.heap_drewN]; omega) | (simp; omega))) hb4
  have zw4 := kw4.size
  have sl_4 := (h).on kw4
  try simp only [World.size_alloc, World.heap_drewN] at zw4
  go_wp2_with fail
  refine (combCheck_is sl_4 HE.out).mono ?_
  rintro e w5 ⟨rfl, hb5⟩
  have kw5 : Below w.heap.size w w5 := below_on (by repeat' (first | assumption | with_reducible exact Below.refl _ _ | with_reducible apply Below.drew | with_reducible apply below_drewN | with_reducible apply below_alloc | with_reducible refine below_set ?_ ?_ _ | (simp only [World.size_alloc, World.heap_drewN]; omega) | (simp; omega))) hb5
  have zw5 := kw5.size
  have sl_5 := (h).on kw5
  try simp only [World.size_alloc, World.heap_drewN] at zw5
  go_wp2_with fail
  refine (combCheck_is (xs := [-1]) (Sl.blk 1 1 (e := 3) (by simp only [heap_alloc_get, World.size_alloc]; simp [ints]) rfl (by simp [maxLen])) comb_one).mono ?_
  rintro e w6 ⟨rfl, hb6⟩
  have kw6 : Below w.heap.size w w6 := below_on (by repeat' (first | assumption | with_reducible exact Below.refl _ _ | with_reducible apply Below.drew | with_reducible apply below_drewN | with_reducible apply below_alloc | with_reducible refine below_set ?_ ?_ _ | (simp only [World.size_alloc, World.heap_drewN]; omega) | (simp; omega))) hb6
  have zw6 := kw6.size
  have sl_6 := (h).on kw6
  try simp only [World.size_alloc, World.heap_drewN] at zw6
  go_wp2_with fail
  refine (rways_any n k hn _).mono ?_
  rintro e w7 ⟨rfl, hb7⟩
  have kw7 : Below w.heap.size w w7 := below_on (by repeat' (first | assumption | with_reducible exact Below.refl _ _ | with_reducible apply Below.drew | with_reducible apply below_drewN | with_reducible apply below_alloc | with_reducible refine below_set ?_ ?_ _ | (simp only [World.size_alloc, World.heap_drewN]; omega) | (simp; omega))) hb7
  have zw7 := kw7.size
  have sl_7 := (h).on kw7
  try simp only [World.size_alloc, World.heap_drewN] at zw7
  go_wp2_with fail
  go_ret
  exact ⟨rfl, kw7⟩
set_option maxRecDepth 100000 in
set_option maxHeartbeats 3200000 in
theorem law_comb_ok_nz_big (h : Si w A l c zs) (n k : Nat) (hk : k ≤ n) (hn : n ≤ 30) {E : Int} (he : combErr l zs = E) (hne : ¬ E = 0) (r : Int) (hr : 0 ≤ r) (hr2 : (bin 30 k : Int) ≤ r) :
    Calls Try.prog 9 #[.int .i64 n, .int .i64 k, .slice A l c, .int .i64 r] w fun e w' => e = .returned (.bool true) ∧ Below w.heap.size w w' := by
  have hm := h.len_max
  have i1 : (n : Int) ≤ 30 := by omega
  have i2 : (k : Int) ≤ (n : Int) := by omega
  have hk30 : k ≤ 30 := by omega
  have HE := hide he
  have HNE := hide hne
  have j1 : (E != 0) = true := by simpa using hne
  clear he hne
  have ik : (k : Int) ≤ 30 := by omega
  have HS := hide (show r < 0 ∨ (bin 30 k : Int) ≤ r from .inr hr2)
  have hbb := fun w => rways_any 30 k (by omega) w
  have hr3 : (bin 30 k : Int) ≤ r := by omega
  clear hr2
  obtain ⟨b, hbe⟩ : ∃ b, bin 30 k = b := ⟨_, rfl⟩
  rw [hbe] at hbb hr3
  have HB := hide hbb
  clear hbb hbe
  go_enter Try.func9, Try.ntmps9
  go_wp2_with fail
  refine (ways_okB n k hk hn _).mono ?_
  rintro e w1 ⟨rfl, hb1⟩
  have kw1 : Below w.heap.size w w1 := below_on (by repeat' (first | assumption | with_reducible exact Below.refl _ _ | with_reducible apply Below.drew | with_reducible apply below_drewN | with_reducible apply below_alloc | with_reducible refine below_set ?_ ?_ _ | (simp only [World.size_alloc, World.heap_drewN]; omega) | (simp; omega))) hb1
  have zw1 := kw1.size
  have sl_1 := (h).on kw1
  try simp only [World.size_alloc, World.heap_drewN] at zw1
  go_wp2_with fail
  refine (rank_bad sl_1 HE.out HNE.out).mono ?_
  rintro e w2 ⟨rfl, hb2⟩
  have kw2 : Below w.heap.size w w2 := below_on (by repeat' (first | assumption | with_reducible exact Below.refl _ _ | with_reducible apply Below.drew | with_reducible apply below_drewN | with_reducible apply below_alloc | with_reducible refine below_set ?_ ?_ _ | (simp only [World.size_alloc, World.heap_drewN]; omega) | (simp; omega))) hb2
  have zw2 := kw2.size
  have sl_2 := (h).on kw2
  try simp only [World.size_alloc, World.heap_drewN] at zw2
  go_wp2_with fail
  refine (some_noneB k r hk30 HS.out _).mono ?_
  rintro e w3 ⟨rfl, hb3⟩
  have kw3 : Below w.heap.size w w3 := below_on (by repeat' (first | assumption | with_reducible exact Below.refl _ _ | with_reducible apply Below.drew | with_reducible apply below_drewN | with_reducible apply below_alloc | with_reducible refine below_set ?_ ?_ _ | (simp only [World.size_alloc, World.heap_drewN]; omega) | (simp; omega))) hb3
  have zw3 := kw3.size
  have sl_3 := (h).on kw3
  try simp only [World.size_alloc, World.heap_drewN] at zw3
  go_wp2_with fail
  refine (rcomb_is sl_3 HE.out).mono ?_
  rintro e w4 ⟨rfl, hb4⟩
  have kw4 : Below w.heap.size w w4 := below_on (by repeat' (first | assumption | with_reducible exact Below.refl _ _ | with_reducible apply Below.drew | with_reducible apply below_drewN | with_reducible apply below_alloc | with_reducible refine below_set ?_ ?_ _ | (simp only [World.size_alloc, World.heap_drewN]; omega) | (simp; omega))) hb4
  have zw4 := kw4.size
  have sl_4 := (h).on kw4
  try simp only [World.size_alloc, World.heap_drewN] at zw4
  go_wp2_with fail
  refine (combCheck_is sl_4 HE.out).mono ?_
  rintro e w5 ⟨rfl, hb5⟩
  have kw5 : Below w.heap.size w w5 := below_on (by repeat' (first | assumption | with_reducible exact Below.refl _ _ | with_reducible apply Below.drew | with_reducible apply below_drewN | with_reducible apply below_alloc | with_reducible refine below_set ?_ ?_ _ | (simp only [World.size_alloc, World.heap_drewN]; omega) | (simp; omega))) hb5
  have zw5 := kw5.size
  have sl_5 := (h).on kw5
  try simp only [World.size_alloc, World.heap_drewN] at zw5
  go_wp2_with fail
  refine (combCheck_is (xs := [-1]) (Sl.blk 1 1 (e := 3) (by simp only [heap_alloc_get, World.size_alloc]; simp [ints]) rfl (by simp [maxLen])) comb_one).mono ?_
  rintro e w6 ⟨rfl, hb6⟩
  have kw6 : Below w.heap.size w w6 := below_on (by repeat' (first | assumption | with_reducible exact Below.refl _ _ | with_reducible apply Below.drew | with_reducible apply below_drewN | with_reducible apply below_alloc | with_reducible refine below_set ?_ ?_ _ | (simp only [World.size_alloc, World.heap_drewN]; omega) | (simp; omega))) hb6
  have zw6 := kw6.size
  have sl_6 := (h).on kw6
  try simp only [World.size_alloc, World.heap_drewN] at zw6
  go_wp2_with fail
  refine (rways_any n k hn _).mono ?_
  rintro e w7 ⟨rfl, hb7⟩
  have kw7 : Below w.heap.size w w7 := below_on (by repeat' (first | assumption | with_reducible exact Below.refl _ _ | with_reducible apply Below.drew | with_reducible apply below_drewN | with_reducible apply below_alloc | with_reducible refine below_set ?_ ?_ _ | (simp only [World.size_alloc, World.heap_drewN]; omega) | (simp; omega))) hb7
  have zw7 := kw7.size
  have sl_7 := (h).on kw7
  try simp only [World.size_alloc, World.heap_drewN] at zw7
  go_wp2_with fail
  refine (HB.out _).mono ?_
  rintro e w8 ⟨rfl, hb8⟩
  have kw8 : Below w.heap.size w w8 := below_on (by repeat' (first | assumption | with_reducible exact Below.refl _ _ | with_reducible apply Below.drew | with_reducible apply below_drewN | with_reducible apply below_alloc | with_reducible refine below_set ?_ ?_ _ | (simp only [World.size_alloc, World.heap_drewN]; omega) | (simp; omega))) hb8
  have zw8 := kw8.size
  have sl_8 := (h).on kw8
  try simp only [World.size_alloc, World.heap_drewN] at zw8
  go_wp2_with fail
  go_ret
  exact ⟨rfl, kw8⟩
set_option maxRecDepth 100000 in
set_option maxHeartbeats 3200000 in
theorem law_comb_ok_nz_ok (h : Si w A l c zs) (n k : Nat) (hk : k ≤ n) (hn : n ≤ 30) {E : Int} (he : combErr l zs = E) (hne : ¬ E = 0) (r : Nat) (hr2 : r < bin 30 k) :
    Calls Try.prog 9 #[.int .i64 n, .int .i64 k, .slice A l c, .int .i64 r] w fun e w' => e = .returned (.bool true) ∧ Below w.heap.size w w' := by
  have hm := h.len_max
  have i1 : (n : Int) ≤ 30 := by omega
  have i2 : (k : Int) ≤ (n : Int) := by omega
  have hk30 : k ≤ 30 := by omega
  have HE := hide he
  have HNE := hide hne
  have j1 : (E != 0) = true := by simpa using hne
  clear he hne
  have ik : (k : Int) ≤ 30 := by omega
  have HR := hide hr2
  have hbb := fun w => rways_any 30 k (by omega) w
  have hr3 : (r : Int) < (bin 30 k : Int) := by omega
  clear hr2
  obtain ⟨b, hbe⟩ : ∃ b, bin 30 k = b := ⟨_, rfl⟩
  rw [hbe] at hbb hr3
  have HB := hide hbb
  clear hbb hbe
  go_enter Try.func9, Try.ntmps9
  go_wp2_with fail
  refine (ways_okB n k hk hn _).mono ?_
  rintro e w1 ⟨rfl, hb1⟩
  have kw1 : Below w.heap.size w w1 := below_on (by repeat' (first | assumption | with_reducible exact Below.refl _ _ | with_reducible apply Below.drew | with_reducible apply below_drewN | with_reducible apply below_alloc | with_reducible refine below_set ?_ ?_ _ | (simp only [World.size_alloc, World.heap_drewN]; omega) | (simp; omega))) hb1
  have zw1 := kw1.size
  have sl_1 := (h).on kw1
  try simp only [World.size_alloc, World.heap_drewN] at zw1
  go_wp2_with fail
  refine (rank_bad sl_1 HE.out HNE.out).mono ?_
  rintro e w2 ⟨rfl, hb2⟩
  have kw2 : Below w.heap.size w w2 := below_on (by repeat' (first | assumption | with_reducible exact Below.refl _ _ | with_reducible apply Below.drew | with_reducible apply below_drewN | with_reducible apply below_alloc | with_reducible refine below_set ?_ ?_ _ | (simp only [World.size_alloc, World.heap_drewN]; omega) | (simp; omega))) hb2
  have zw2 := kw2.size
  have sl_2 := (h).on kw2
  try simp only [World.size_alloc, World.heap_drewN] at zw2
  go_wp2_with fail
  refine (some_ok k r hk30 HR.out _).mono ?_
  rintro e w3 ⟨A3, c3, ys, rfl, hy, hsi, hb3⟩
  have kw3 : Below w.heap.size w w3 := below_on (by repeat' (first | assumption | with_reducible exact Below.refl _ _ | with_reducible apply Below.drew | with_reducible apply below_drewN | with_reducible apply below_alloc | with_reducible refine below_set ?_ ?_ _ | (simp only [World.size_alloc, World.heap_drewN]; omega) | (simp; omega))) hb3
  have zw3 := kw3.size
  have sl_3 := (h).on kw3
  try simp only [World.size_alloc, World.heap_drewN] at zw3
  have HYS := hide hy
  clear hy
  go_wp2_with fail
  refine (rcomb_is sl_3 HE.out).mono ?_
  rintro e w4 ⟨rfl, hb4⟩
  have kw4 : Below w.heap.size w w4 := below_on (by repeat' (first | assumption | with_reducible exact Below.refl _ _ | with_reducible apply Below.drew | with_reducible apply below_drewN | with_reducible apply below_alloc | with_reducible refine below_set ?_ ?_ _ | (simp only [World.size_alloc, World.heap_drewN]; omega) | (simp; omega))) hb4
  have zw4 := kw4.size
  have kr4 : Below w3.heap.size w3 w4 := below_on (by repeat' (first | assumption | with_reducible exact Below.refl _ _ | with_reducible apply Below.drew | with_reducible apply below_drewN | with_reducible apply below_alloc | with_reducible refine below_set ?_ ?_ _ | (simp only [World.size_alloc, World.heap_drewN]; omega) | (simp; omega))) hb4
  have zr4 := kr4.size
  have sl_4 := (h).on kw4
  try simp only [World.size_alloc, World.heap_drewN] at zw4 zr4
  go_wp2_with fail
  refine (combCheck_is sl_4 HE.out).mono ?_
  rintro e w5 ⟨rfl, hb5⟩
  have kw5 : Below w.heap.size w w5 := below_on (by repeat' (first | assumption | with_reducible exact Below.refl _ _ | with_reducible apply Below.drew | with_reducible apply below_drewN | with_reducible apply below_alloc | with_reducible refine below_set ?_ ?_ _ | (simp only [World.size_alloc, World.heap_drewN]; omega) | (simp; omega))) hb5
  have zw5 := kw5.size
  have kr5 : Below w3.heap.size w3 w5 := below_on (by repeat' (first | assumption | with_reducible exact Below.refl _ _ | with_reducible apply Below.drew | with_reducible apply below_drewN | with_reducible apply below_alloc | with_reducible refine below_set ?_ ?_ _ | (simp only [World.size_alloc, World.heap_drewN]; omega) | (simp; omega))) hb5
  have zr5 := kr5.size
  have sl_5 := (h).on kw5
  try simp only [World.size_alloc, World.heap_drewN] at zw5 zr5
  go_wp2_with fail
  refine (combCheck_is (xs := [-1]) (Sl.blk 1 1 (e := 3) (by simp only [heap_alloc_get, World.size_alloc]; simp [ints]) rfl (by simp [maxLen])) comb_one).mono ?_
  rintro e w6 ⟨rfl, hb6⟩
  have kw6 : Below w.heap.size w w6 := below_on (by repeat' (first | assumption | with_reducible exact Below.refl _ _ | with_reducible apply Below.drew | with_reducible apply below_drewN | with_reducible apply below_alloc | with_reducible refine below_set ?_ ?_ _ | (simp only [World.size_alloc, World.heap_drewN]; omega) | (simp; omega))) hb6
  have zw6 := kw6.size
  have kr6 : Below w3.heap.size w3 w6 := below_on (by repeat' (first | assumption | with_reducible exact Below.refl _ _ | with_reducible apply Below.drew | with_reducible apply below_drewN | with_reducible apply below_alloc | with_reducible refine below_set ?_ ?_ _ | (simp only [World.size_alloc, World.heap_drewN]; omega) | (simp; omega))) hb6
  have zr6 := kr6.size
  have sl_6 := (h).on kw6
  try simp only [World.size_alloc, World.heap_drewN] at zw6 zr6
  go_wp2_with fail
  refine (rways_any n k hn _).mono ?_
  rintro e w7 ⟨rfl, hb7⟩
  have kw7 : Below w.heap.size w w7 := below_on (by repeat' (first | assumption | with_reducible exact Below.refl _ _ | with_reducible apply Below.drew | with_reducible apply below_drewN | with_reducible apply below_alloc | with_reducible refine below_set ?_ ?_ _ | (simp only [World.size_alloc, World.heap_drewN]; omega) | (simp; omega))) hb7
  have zw7 := kw7.size
  have kr7 : Below w3.heap.size w3 w7 := below_on (by repeat' (first | assumption | with_reducible exact Below.refl _ _ | with_reducible apply Below.drew | with_reducible apply below_drewN | with_reducible apply below_alloc | with_reducible refine below_set ?_ ?_ _ | (simp only [World.size_alloc, World.heap_drewN]; omega) | (simp; omega))) hb7
  have zr7 := kr7.size
  have sl_7 := (h).on kw7
  try simp only [World.size_alloc, World.heap_drewN] at zw7 zr7
  go_wp2_with fail
  refine (HB.out _).mono ?_
  rintro e w8 ⟨rfl, hb8⟩
  have kw8 : Below w.heap.size w w8 := below_on (by repeat' (first | assumption | with_reducible exact Below.refl _ _ | with_reducible apply Below.drew | with_reducible apply below_drewN | with_reducible apply below_alloc | with_reducible refine below_set ?_ ?_ _ | (simp only [World.size_alloc, World.heap_drewN]; omega) | (simp; omega))) hb8
  have zw8 := kw8.size
  have kr8 : Below w3.heap.size w3 w8 := below_on (by repeat' (first | assumption | with_reducible exact Below.refl _ _ | with_reducible apply Below.drew | with_reducible apply below_drewN | with_reducible apply below_alloc | with_reducible refine below_set ?_ ?_ _ | (simp only [World.size_alloc, World.heap_drewN]; omega) | (simp; omega))) hb8
  have zr8 := kr8.size
  have sl_8 := (h).on kw8
  try simp only [World.size_alloc, World.heap_drewN] at zw8 zr8
  go_wp2_with fail
  refine (rsome_any k r _ hk30 HR.out).mono ?_
  rintro e w9 ⟨A5, c5, xs, rfl, hx, hox, hb9⟩
  have kw9 : Below w.heap.size w w9 := below_on (by repeat' (first | assumption | with_reducible exact Below.refl _ _ | with_reducible apply Below.drew | with_reducible apply below_drewN | with_reducible apply below_alloc | with_reducible refine below_set ?_ ?_ _ | (simp only [World.size_alloc, World.heap_drewN]; omega) | (simp; omega))) hb9
  have zw9 := kw9.size
  have kr9 : Below w3.heap.size w3 w9 := below_on (by repeat' (first | assumption | with_reducible exact Below.refl _ _ | with_reducible apply Below.drew | with_reducible apply below_drewN | with_reducible apply below_alloc | with_reducible refine below_set ?_ ?_ _ | (simp only [World.size_alloc, World.heap_drewN]; omega) | (simp; omega))) hb9
  have zr9 := kr9.size
  have sl_9 := (h).on kw9
  try simp only [World.size_alloc, World.heap_drewN] at zw9 zr9
  obtain rfl := SomOf.one HYS.out hx
  clear hx
  go_wp2_with fail
  refine (equal_yes A3 _ k c3 _ _ _ (hsi.on kr9) hox.sl).mono ?_
  rintro e wz ⟨rfl, q, rfl⟩
  have kz : Below w.heap.size w (w9.drewN q) := below_drewN kw9 q
  go_wp2_with fail
  go_ret
  exact ⟨rfl, kz⟩
set_option maxRecDepth 100000 in
set_option maxHeartbeats 3200000 in
theorem law_comb_no_z_arg (h : Si w A l c zs) (n : Int) (k : Int) (hw : ¬ (0 ≤ n ∧ n ≤ 30 ∧ 0 ≤ k ∧ k ≤ n)) (he : combErr l zs = 0) (r : Int) (hk : k < 0 ∨ 30 < k) :
    Calls Try.prog 9 #[.int .i64 n, .int .i64 k, .slice A l c, .int .i64 r] w fun e w' => e = .returned (.bool true) ∧ Below w.heap.size w w' := by
  have hm := h.len_max
  have HW := hide hw
  clear hw
  have HE := hide he
  clear he
  have HK := hide hk
  clear hk
  go_enter Try.func9, Try.ntmps9
  go_wp2_with fail
  refine (ways_noB n k HW.out _).mono ?_
  rintro e w1 ⟨rfl, hb1⟩
  have kw1 : Below w.heap.size w w1 := below_on (by repeat' (first | assumption | with_reducible exact Below.refl _ _ | with_reducible apply Below.drew | with_reducible apply below_drewN | with_reducible apply below_alloc | with_reducible refine below_set ?_ ?_ _ | (simp only [World.size_alloc, World.heap_drewN]; omega) | (simp; omega))) hb1
  have zw1 := kw1.size
  have sl_1 := (h).on kw1
  try simp only [World.size_alloc, World.heap_drewN] at zw1
  go_wp2_with fail
  refine (rank_ok sl_1 HE.out).mono ?_
  rintro e w2 ⟨rfl, hb2⟩
  have kw2 : Below w.heap.size w w2 := below_on (by repeat' (first | assumption | with_reducible exact Below.refl _ _ | with_reducible apply Below.drew | with_reducible apply below_drewN | with_reducible apply below_alloc | with_reducible refine below_set ?_ ?_ _ | (simp only [World.size_alloc, World.heap_drewN]; omega) | (simp; omega))) hb2
  have zw2 := kw2.size
  have sl_2 := (h).on kw2
  try simp only [World.size_alloc, World.heap_drewN] at zw2
  go_wp2_with fail
  refine (some_argB k r HK.out _).mono ?_
  rintro e w3 ⟨rfl, hb3⟩
  have kw3 : Below w.heap.size w w3 := below_on (by repeat' (first | assumption | with_reducible exact Below.refl _ _ | with_reducible apply Below.drew | with_reducible apply below_drewN | with_reducible apply below_alloc | with_reducible refine below_set ?_ ?_ _ | (simp only [World.size_alloc, World.heap_drewN]; omega) | (simp; omega))) hb3
  have zw3 := kw3.size
  have sl_3 := (h).on kw3
  try simp only [World.size_alloc, World.heap_drewN] at zw3
  go_wp2_with fail
  refine (rcomb_is sl_3 HE.out).mono ?_
  rintro e w4 ⟨rfl, hb4⟩
  have kw4 : Below w.heap.size w w4 := below_on (by repeat' (first | assumption | with_reducible exact Below.refl _ _ | with_reducible apply Below.drew | with_reducible apply below_drewN | with_reducible apply below_alloc | with_reducible refine below_set ?_ ?_ _ | (simp only [World.size_alloc, World.heap_drewN]; omega) | (simp; omega))) hb4
  have zw4 := kw4.size
  have sl_4 := (h).on kw4
  try simp only [World.size_alloc, World.heap_drewN] at zw4
  go_wp2_with fail
  refine (combCheck_is sl_4 HE.out).mono ?_
  rintro e w5 ⟨rfl, hb5⟩
  have kw5 : Below w.heap.size w w5 := below_on (by repeat' (first | assumption | with_reducible exact Below.refl _ _ | with_reducible apply Below.drew | with_reducible apply below_drewN | with_reducible apply below_alloc | with_reducible refine below_set ?_ ?_ _ | (simp only [World.size_alloc, World.heap_drewN]; omega) | (simp; omega))) hb5
  have zw5 := kw5.size
  have sl_5 := (h).on kw5
  try simp only [World.size_alloc, World.heap_drewN] at zw5
  go_wp2_with fail
  refine (combCheck_is (xs := [-1]) (Sl.blk 1 1 (e := 3) (by simp only [heap_alloc_get, World.size_alloc]; simp [ints]) rfl (by simp [maxLen])) comb_one).mono ?_
  rintro e w6 ⟨rfl, hb6⟩
  have kw6 : Below w.heap.size w w6 := below_on (by repeat' (first | assumption | with_reducible exact Below.refl _ _ | with_reducible apply Below.drew | with_reducible apply below_drewN | with_reducible apply below_alloc | with_reducible refine below_set ?_ ?_ _ | (simp only [World.size_alloc, World.heap_drewN]; omega) | (simp; omega))) hb6
  have zw6 := kw6.size
  have sl_6 := (h).on kw6
  try simp only [World.size_alloc, World.heap_drewN] at zw6
  all_goals go_wp2_with fail
  all_goals (try (exfalso; have := HW.out; omega))
  all_goals (try (exfalso; have := HK.out; omega))
  all_goals refine (crank_any sl_6 HE.out).mono ?_
  all_goals rintro e w7 ⟨rfl, hb7⟩
  all_goals have kw7 : Below w.heap.size w w7 := below_on (by repeat' (first | assumption | with_reducible exact Below.refl _ _ | with_reducible apply Below.drew | with_reducible apply below_drewN | with_reducible apply below_alloc | with_reducible refine below_set ?_ ?_ _ | (simp only [World.size_alloc, World.heap_drewN]; omega) | (simp; omega))) hb7
  all_goals have zw7 := kw7.size
  all_goals have sl_7 := (h).on kw7
  all_goals try simp only [World.size_alloc, World.heap_drewN] at zw7
  all_goals go_wp2_with fail
  all_goals (try (exfalso; have := HW.out; omega))
  all_goals (try (exfalso; have := HK.out; omega))
  all_goals go_ret
  all_goals exact ⟨rfl, kw7⟩
set_option maxRecDepth 100000 in
set_option maxHeartbeats 3200000 in
theorem law_comb_no_z_neg (h : Si w A l c zs) (n : Int) (k : Nat) (hk30 : k ≤ 30) (hw : ¬ (0 ≤ n ∧ n ≤ 30 ∧ 0 ≤ (k : Int) ∧ (k : Int) ≤ n)) (he : combErr l zs = 0) (r : Int) (hr : r < 0) :
    Calls Try.prog 9 #[.int .i64 n, .int .i64 k, .slice A l c, .int .i64 r] w fun e w' => e = .returned (.bool true) ∧ Below w.heap.size w w' := by
  have hm := h.len_max
  have HW := hide hw
  clear hw
  have HE := hide he
  clear he
  have ik : (k : Int) ≤ 30 := by omega
  have HS := hide (show r < 0 ∨ (bin 30 k : Int) ≤ r from .inl hr)
  go_enter Try.func9, Try.ntmps9
  go_wp2_with fail
  refine (ways_noB n k HW.out _).mono ?_
  rintro e w1 ⟨rfl, hb1⟩
  have kw1 : Below w.heap.size w w1 := below_on (by repeat' (first | assumption | with_reducible exact Below.refl _ _ | with_reducible apply Below.drew | with_reducible apply below_drewN | with_reducible apply below_alloc | with_reducible refine below_set ?_ ?_ _ | (simp only [World.size_alloc, World.heap_drewN]; omega) | (simp; omega))) hb1
  have zw1 := kw1.size
  have sl_1 := (h).on kw1
  try simp only [World.size_alloc, World.heap_drewN] at zw1
  go_wp2_with fail
  refine (rank_ok sl_1 HE.out).mono ?_
  rintro e w2 ⟨rfl, hb2⟩
  have kw2 : Below w.heap.size w w2 := below_on (by repeat' (first | assumption | with_reducible exact Below.refl _ _ | with_reducible apply Below.drew | with_reducible apply below_drewN | with_reducible apply below_alloc | with_reducible refine below_set ?_ ?_ _ | (simp only [World.size_alloc, World.heap_drewN]; omega) | (simp; omega))) hb2
  have zw2 := kw2.size
  have sl_2 := (h).on kw2
  try simp only [World.size_alloc, World.heap_drewN] at zw2
  go_wp2_with fail
  refine (some_noneB k r hk30 HS.out _).mono ?_
  rintro e w3 ⟨rfl, hb3⟩
  have kw3 : Below w.heap.size w w3 := below_on (by repeat' (first | assumption | with_reducible exact Below.refl _ _ | with_reducible apply Below.drew | with_reducible apply below_drewN | with_reducible apply below_alloc | with_reducible refine below_set ?_ ?_ _ | (simp only [World.size_alloc, World.heap_drewN]; omega) | (simp; omega))) hb3
  have zw3 := kw3.size
  have sl_3 := (h).on kw3
  try simp only [World.size_alloc, World.heap_drewN] at zw3
  go_wp2_with fail
  refine (rcomb_is sl_3 HE.out).mono ?_
  rintro e w4 ⟨rfl, hb4⟩
  have kw4 : Below w.heap.size w w4 := below_on (by repeat' (first | assumption | with_reducible exact Below.refl _ _ | with_reducible apply Below.drew | with_reducible apply below_drewN | with_reducible apply below_alloc | with_reducible refine below_set ?_ ?_ _ | (simp only [World.size_alloc, World.heap_drewN]; omega) | (simp; omega))) hb4
  have zw4 := kw4.size
  have sl_4 := (h).on kw4
  try simp only [World.size_alloc, World.heap_drewN] at zw4
  go_wp2_with fail
  refine (combCheck_is sl_4 HE.out).mono ?_
  rintro e w5 ⟨rfl, hb5⟩
  have kw5 : Below w.heap.size w w5 := below_on (by repeat' (first | assumption | with_reducible exact Below.refl _ _ | with_reducible apply Below.drew | with_reducible apply below_drewN | with_reducible apply below_alloc | with_reducible refine below_set ?_ ?_ _ | (simp only [World.size_alloc, World.heap_drewN]; omega) | (simp; omega))) hb5
  have zw5 := kw5.size
  have sl_5 := (h).on kw5
  try simp only [World.size_alloc, World.heap_drewN] at zw5
  go_wp2_with fail
  refine (combCheck_is (xs := [-1]) (Sl.blk 1 1 (e := 3) (by simp only [heap_alloc_get, World.size_alloc]; simp [ints]) rfl (by simp [maxLen])) comb_one).mono ?_
  rintro e w6 ⟨rfl, hb6⟩
  have kw6 : Below w.heap.size w w6 := below_on (by repeat' (first | assumption | with_reducible exact Below.refl _ _ | with_reducible apply Below.drew | with_reducible apply below_drewN | with_reducible apply below_alloc | with_reducible refine below_set ?_ ?_ _ | (simp only [World.size_alloc, World.heap_drewN]; omega) | (simp; omega))) hb6
  have zw6 := kw6.size
  have sl_6 := (h).on kw6
  try simp only [World.size_alloc, World.heap_drewN] at zw6
  all_goals go_wp2_with fail
  all_goals (try (exfalso; have := HW.out; omega))
  all_goals refine (crank_any sl_6 HE.out).mono ?_
  all_goals rintro e w7 ⟨rfl, hb7⟩
  all_goals have kw7 : Below w.heap.size w w7 := below_on (by repeat' (first | assumption | with_reducible exact Below.refl _ _ | with_reducible apply Below.drew | with_reducible apply below_drewN | with_reducible apply below_alloc | with_reducible refine below_set ?_ ?_ _ | (simp only [World.size_alloc, World.heap_drewN]; omega) | (simp; omega))) hb7
  all_goals have zw7 := kw7.size
  all_goals have sl_7 := (h).on kw7
  all_goals try simp only [World.size_alloc, World.heap_drewN] at zw7
  all_goals go_wp2_with fail
  all_goals (try (exfalso; have := HW.out; omega))
  all_goals go_ret
  all_goals exact ⟨rfl, kw7⟩
set_option maxRecDepth 100000 in
set_option maxHeartbeats 3200000 in
theorem law_comb_no_z_big (h : Si w A l c zs) (n : Int) (k : Nat) (hk30 : k ≤ 30) (hw : ¬ (0 ≤ n ∧ n ≤ 30 ∧ 0 ≤ (k : Int) ∧ (k : Int) ≤ n)) (he : combErr l zs = 0) (r : Int) (hr : 0 ≤ r) (hr2 : (bin 30 k : Int) ≤ r) :
    Calls Try.prog 9 #[.int .i64 n, .int .i64 k, .slice A l c, .int .i64 r] w fun e w' => e = .returned (.bool true) ∧ Below w.heap.size w w' := by
  have hm := h.len_max
  have HW := hide hw
  clear hw
  have HE := hide he
  clear he
  have ik : (k : Int) ≤ 30 := by omega
  have HS := hide (show r < 0 ∨ (bin 30 k : Int) ≤ r from .inr hr2)
  have hbb := fun w => rways_any 30 k (by omega) w
  have hr3 : (bin 30 k : Int) ≤ r := by omega
  clear hr2
  obtain ⟨b, hbe⟩ : ∃ b, bin 30 k = b := ⟨_, rfl⟩
  rw [hbe] at hbb hr3
  have HB := hide hbb
  clear hbb hbe
  go_enter Try.func9, Try.ntmps9
  go_wp2_with fail
  refine (ways_noB n k HW.out _).mono ?_
  rintro e w1 ⟨rfl, hb1⟩
  have kw1 : Below w.heap.size w w1 := below_on (by repeat' (first | assumption | with_reducible exact Below.refl _ _ | with_reducible apply Below.drew | with_reducible apply below_drewN | with_reducible apply below_alloc | with_reducible refine below_set ?_ ?_ _ | (simp only [World.size_alloc, World.heap_drewN]; omega) | (simp; omega))) hb1
  have zw1 := kw1.size
  have sl_1 := (h).on kw1
  try simp only [World.size_alloc, World.heap_drewN] at zw1
  go_wp2_with fail
  refine (rank_ok sl_1 HE.out).mono ?_
  rintro e w2 ⟨rfl, hb2⟩
  have kw2 : Below w.heap.size w w2 := below_on (by repeat' (first | assumption | with_reducible exact Below.refl _ _ | with_reducible apply Below.drew | with_reducible apply below_drewN | with_reducible apply below_alloc | with_reducible refine below_set ?_ ?_ _ | (simp only [World.size_alloc, World.heap_drewN]; omega) | (simp; omega))) hb2
  have zw2 := kw2.size
  have sl_2 := (h).on kw2
  try simp only [World.size_alloc, World.heap_drewN] at zw2
  go_wp2_with fail
  refine (some_noneB k r hk30 HS.out _).mono ?_
  rintro e w3 ⟨rfl, hb3⟩
  have kw3 : Below w.heap.size w w3 := below_on (by repeat' (first | assumption | with_reducible exact Below.refl _ _ | with_reducible apply Below.drew | with_reducible apply below_drewN | with_reducible apply below_alloc | with_reducible refine below_set ?_ ?_ _ | (simp only [World.size_alloc, World.heap_drewN]; omega) | (simp; omega))) hb3
  have zw3 := kw3.size
  have sl_3 := (h).on kw3
  try simp only [World.size_alloc, World.heap_drewN] at zw3
  go_wp2_with fail
  refine (rcomb_is sl_3 HE.out).mono ?_
  rintro e w4 ⟨rfl, hb4⟩
  have kw4 : Below w.heap.size w w4 := below_on (by repeat' (first | assumption | with_reducible exact Below.refl _ _ | with_reducible apply Below.drew | with_reducible apply below_drewN | with_reducible apply below_alloc | with_reducible refine below_set ?_ ?_ _ | (simp only [World.size_alloc, World.heap_drewN]; omega) | (simp; omega))) hb4
  have zw4 := kw4.size
  have sl_4 := (h).on kw4
  try simp only [World.size_alloc, World.heap_drewN] at zw4
  go_wp2_with fail
  refine (combCheck_is sl_4 HE.out).mono ?_
  rintro e w5 ⟨rfl, hb5⟩
  have kw5 : Below w.heap.size w w5 := below_on (by repeat' (first | assumption | with_reducible exact Below.refl _ _ | with_reducible apply Below.drew | with_reducible apply below_drewN | with_reducible apply below_alloc | with_reducible refine below_set ?_ ?_ _ | (simp only [World.size_alloc, World.heap_drewN]; omega) | (simp; omega))) hb5
  have zw5 := kw5.size
  have sl_5 := (h).on kw5
  try simp only [World.size_alloc, World.heap_drewN] at zw5
  go_wp2_with fail
  refine (combCheck_is (xs := [-1]) (Sl.blk 1 1 (e := 3) (by simp only [heap_alloc_get, World.size_alloc]; simp [ints]) rfl (by simp [maxLen])) comb_one).mono ?_
  rintro e w6 ⟨rfl, hb6⟩
  have kw6 : Below w.heap.size w w6 := below_on (by repeat' (first | assumption | with_reducible exact Below.refl _ _ | with_reducible apply Below.drew | with_reducible apply below_drewN | with_reducible apply below_alloc | with_reducible refine below_set ?_ ?_ _ | (simp only [World.size_alloc, World.heap_drewN]; omega) | (simp; omega))) hb6
  have zw6 := kw6.size
  have sl_6 := (h).on kw6
  try simp only [World.size_alloc, World.heap_drewN] at zw6
  all_goals go_wp2_with fail
  all_goals (try (exfalso; have := HW.out; omega))
  all_goals refine (crank_any sl_6 HE.out).mono ?_
  all_goals rintro e w7 ⟨rfl, hb7⟩
  all_goals have kw7 : Below w.heap.size w w7 := below_on (by repeat' (first | assumption | with_reducible exact Below.refl _ _ | with_reducible apply Below.drew | with_reducible apply below_drewN | with_reducible apply below_alloc | with_reducible refine below_set ?_ ?_ _ | (simp only [World.size_alloc, World.heap_drewN]; omega) | (simp; omega))) hb7
  all_goals have zw7 := kw7.size
  all_goals have sl_7 := (h).on kw7
  all_goals try simp only [World.size_alloc, World.heap_drewN] at zw7
  all_goals go_wp2_with fail
  all_goals (try (exfalso; have := HW.out; omega))
  all_goals refine (HB.out _).mono ?_
  all_goals rintro e w8 ⟨rfl, hb8⟩
  all_goals have kw8 : Below w.heap.size w w8 := below_on (by repeat' (first | assumption | with_reducible exact Below.refl _ _ | with_reducible apply Below.drew | with_reducible apply below_drewN | with_reducible apply below_alloc | with_reducible refine below_set ?_ ?_ _ | (simp only [World.size_alloc, World.heap_drewN]; omega) | (simp; omega))) hb8
  all_goals have zw8 := kw8.size
  all_goals have sl_8 := (h).on kw8
  all_goals try simp only [World.size_alloc, World.heap_drewN] at zw8
  all_goals go_wp2_with fail
  all_goals (try (exfalso; have := HW.out; omega))
  all_goals go_ret
  all_goals exact ⟨rfl, kw8⟩
set_option maxRecDepth 100000 in
set_option maxHeartbeats 3200000 in
theorem law_comb_no_z_ok (h : Si w A l c zs) (n : Int) (k : Nat) (hk30 : k ≤ 30) (hw : ¬ (0 ≤ n ∧ n ≤ 30 ∧ 0 ≤ (k : Int) ∧ (k : Int) ≤ n)) (he : combErr l zs = 0) (r : Nat) (hr2 : r < bin 30 k) :
    Calls Try.prog 9 #[.int .i64 n, .int .i64 k, .slice A l c, .int .i64 r] w fun e w' => e = .returned (.bool true) ∧ Below w.heap.size w w' := by
  have hm := h.len_max
  have HW := hide hw
  clear hw
  have HE := hide he
  clear he
  have ik : (k : Int) ≤ 30 := by omega
  have HR := hide hr2
  have hbb := fun w => rways_any 30 k (by omega) w
  have hr3 : (r : Int) < (bin 30 k : Int) := by omega
  clear hr2
  obtain ⟨b, hbe⟩ : ∃ b, bin 30 k = b := ⟨_, rfl⟩
  rw [hbe] at hbb hr3
  have HB := hide hbb
  clear hbb hbe
  go_enter Try.func9, Try.ntmps9
  go_wp2_with fail
  refine (ways_noB n k HW.out _).mono ?_
  rintro e w1 ⟨rfl, hb1⟩
  have kw1 : Below w.heap.size w w1 := below_on (by repeat' (first | assumption | with_reducible exact Below.refl _ _ | with_reducible apply Below.drew | with_reducible apply below_drewN | with_reducible apply below_alloc | with_reducible refine below_set ?_ ?_ _ | (simp only [World.size_alloc, World.heap_drewN]; omega) | (simp; omega))) hb1
  have zw1 := kw1.size
  have sl_1 := (h).on kw1
  try simp only [World.size_alloc, World.heap_drewN] at zw1
  go_wp2_with fail
  refine (rank_ok sl_1 HE.out).mono ?_
  rintro e w2 ⟨rfl, hb2⟩
  have kw2 : Below w.heap.size w w2 := below_on (by repeat' (first | assumption | with_reducible exact Below.refl _ _ | with_reducible apply Below.drew | with_reducible apply below_drewN | with_reducible apply below_alloc | with_reducible refine below_set ?_ ?_ _ | (simp only [World.size_alloc, World.heap_drewN]; omega) | (simp; omega))) hb2
  have zw2 := kw2.size
  have sl_2 := (h).on kw2
  try simp only [World.size_alloc, World.heap_drewN] at zw2
  go_wp2_with fail
  refine (some_ok k r hk30 HR.out _).mono ?_
  rintro e w3 ⟨A3, c3, ys, rfl, hy, hsi, hb3⟩
  have kw3 : Below w.heap.size w w3 := below_on (by repeat' (first | assumption | with_reducible exact Below.refl _ _ | with_reducible apply Below.drew | with_reducible apply below_drewN | with_reducible apply below_alloc | with_reducible refine below_set ?_ ?_ _ | (simp only [World.size_alloc, World.heap_drewN]; omega) | (simp; omega))) hb3
  have zw3 := kw3.size
  have sl_3 := (h).on kw3
  try simp only [World.size_alloc, World.heap_drewN] at zw3
  have HYS := hide hy
  clear hy
  go_wp2_with fail
  refine (rcomb_is sl_3 HE.out).mono ?_
  rintro e w4 ⟨rfl, hb4⟩
  have kw4 : Below w.heap.size w w4 := below_on (by repeat' (first | assumption | with_reducible exact Below.refl _ _ | with_reducible apply Below.drew | with_reducible apply below_drewN | with_reducible apply below_alloc | with_reducible refine below_set ?_ ?_ _ | (simp only [World.size_alloc, World.heap_drewN]; omega) | (simp; omega))) hb4
  have zw4 := kw4.size
  have kr4 : Below w3.heap.size w3 w4 := below_on (by repeat' (first | assumption | with_reducible exact Below.refl _ _ | with_reducible apply Below.drew | with_reducible apply below_drewN | with_reducible apply below_alloc | with_reducible refine below_set ?_ ?_ _ | (simp only [World.size_alloc, World.heap_drewN]; omega) | (simp; omega))) hb4
  have zr4 := kr4.size
  have sl_4 := (h).on kw4
  try simp only [World.size_alloc, World.heap_drewN] at zw4 zr4
  go_wp2_with fail
  refine (combCheck_is sl_4 HE.out).mono ?_
  rintro e w5 ⟨rfl, hb5⟩
  have kw5 : Below w.heap.size w w5 := below_on (by repeat' (first | assumption | with_reducible exact Below.refl _ _ | with_reducible apply Below.drew | with_reducible apply below_drewN | with_reducible apply below_alloc | with_reducible refine below_set ?_ ?_ _ | (simp only [World.size_alloc, World.heap_drewN]; omega) | (simp; omega))) hb5
  have zw5 := kw5.size
  have kr5 : Below w3.heap.size w3 w5 := below_on (by repeat' (first | assumption | with_reducible exact Below.refl _ _ | with_reducible apply Below.drew | with_reducible apply below_drewN | with_reducible apply below_alloc | with_reducible refine below_set ?_ ?_ _ | (simp only [World.size_alloc, World.heap_drewN]; omega) | (simp; omega))) hb5
  have zr5 := kr5.size
  have sl_5 := (h).on kw5
  try simp only [World.size_alloc, World.heap_drewN] at zw5 zr5
  go_wp2_with fail
  refine (combCheck_is (xs := [-1]) (Sl.blk 1 1 (e := 3) (by simp only [heap_alloc_get, World.size_alloc]; simp [ints]) rfl (by simp [maxLen])) comb_one).mono ?_
  rintro e w6 ⟨rfl, hb6⟩
  have kw6 : Below w.heap.size w w6 := below_on (by repeat' (first | assumption | with_reducible exact Below.refl _ _ | with_reducible apply Below.drew | with_reducible apply below_drewN | with_reducible apply below_alloc | with_reducible refine below_set ?_ ?_ _ | (simp only [World.size_alloc, World.heap_drewN]; omega) | (simp; omega))) hb6
  have zw6 := kw6.size
  have kr6 : Below w3.heap.size w3 w6 := below_on (by repeat' (first | assumption | with_reducible exact Below.refl _ _ | with_reducible apply Below.drew | with_reducible apply below_drewN | with_reducible apply below_alloc | with_reducible refine below_set ?_ ?_ _ | (simp only [World.size_alloc, World.heap_drewN]; omega) | (simp; omega))) hb6
  have zr6 := kr6.size
  have sl_6 := (h).on kw6
  try simp only [World.size_alloc, World.heap_drewN] at zw6 zr6
  all_goals go_wp2_with fail
  all_goals (try (exfalso; have := HW.out; omega))
  all_goals refine (crank_any sl_6 HE.out).mono ?_
  all_goals rintro e w7 ⟨rfl, hb7⟩
  all_goals have kw7 : Below w.heap.size w w7 := below_on (by repeat' (first | assumption | with_reducible exact Below.refl _ _ | with_reducible apply Below.drew | with_reducible apply below_drewN | with_reducible apply below_alloc | with_reducible refine below_set ?_ ?_ _ | (simp only [World.size_alloc, World.heap_drewN]; omega) | (simp; omega))) hb7
  all_goals have zw7 := kw7.size
  all_goals have kr7 : Below w3.heap.size w3 w7 := below_on (by repeat' (first | assumption | with_reducible exact Below.refl _ _ | with_reducible apply Below.drew | with_reducible apply below_drewN | with_reducible apply below_alloc | with_reducible refine below_set ?_ ?_ _ | (simp only [World.size_alloc, World.heap_drewN]; omega) | (simp; omega))) hb7
  all_goals have zr7 := kr7.size
  all_goals have sl_7 := (h).on kw7
  all_goals try simp only [World.size_alloc, World.heap_drewN] at zw7 zr7
  all_goals go_wp2_with fail
  all_goals (try (exfalso; have := HW.out; omega))
  all_goals refine (HB.out _).mono ?_
  all_goals rintro e w8 ⟨rfl, hb8⟩
  all_goals have kw8 : Below w.heap.size w w8 := below_on (by repeat' (first | assumption | with_reducible exact Below.refl _ _ | with_reducible apply Below.drew | with_reducible apply below_drewN | with_reducible apply below_alloc | with_reducible refine below_set ?_ ?_ _ | (simp only [World.size_alloc, World.heap_drewN]; omega) | (simp; omega))) hb8
  all_goals have zw8 := kw8.size
  all_goals have kr8 : Below w3.heap.size w3 w8 := below_on (by repeat' (first | assumption | with_reducible exact Below.refl _ _ | with_reducible apply Below.drew | with_reducible apply below_drewN | with_reducible apply below_alloc | with_reducible refine below_set ?_ ?_ _ | (simp only [World.size_alloc, World.heap_drewN]; omega) | (simp; omega))) hb8
  all_goals have zr8 := kr8.size
  all_goals have sl_8 := (h).on kw8
  all_goals try simp only [World.size_alloc, World.heap_drewN] at zw8 zr8
  all_goals go_wp2_with fail
  all_goals (try (exfalso; have := HW.out; omega))
  all_goals refine (rsome_any k r _ hk30 HR.out).mono ?_
  all_goals rintro e w9 ⟨A5, c5, xs, rfl, hx, hox, hb9⟩
  all_goals have kw9 : Below w.heap.size w w9 := below_on (by repeat' (first | assumption | with_reducible exact Below.refl _ _ | with_reducible apply Below.drew | with_reducible apply below_drewN | with_reducible apply below_alloc | with_reducible refine below_set ?_ ?_ _ | (simp only [World.size_alloc, World.heap_drewN]; omega) | (simp; omega))) hb9
  all_goals have zw9 := kw9.size
  all_goals have kr9 : Below w3.heap.size w3 w9 := below_on (by repeat' (first | assumption | with_reducible exact Below.refl _ _ | with_reducible apply Below.drew | with_reducible apply below_drewN | with_reducible apply below_alloc | with_reducible refine below_set ?_ ?_ _ | (simp only [World.size_alloc, World.heap_drewN]; omega) | (simp; omega))) hb9
  all_goals have zr9 := kr9.size
  all_goals have sl_9 := (h).on kw9
  all_goals try simp only [World.size_alloc, World.heap_drewN] at zw9 zr9
  all_goals obtain rfl := SomOf.one HYS.out hx
  all_goals clear hx
  all_goals go_wp2_with fail
  all_goals (try (exfalso; have := HW.out; omega))
  all_goals refine (equal_yes A3 _ k c3 _ _ _ (hsi.on kr9) hox.sl).mono ?_
  all_goals rintro e wz ⟨rfl, q, rfl⟩
  all_goals have kz : Below w.heap.size w (w9.drewN q) := below_drewN kw9 q
  all_goals go_wp2_with fail
  all_goals (try (exfalso; have := HW.out; omega))
  all_goals go_ret
  all_goals exact ⟨rfl, kz⟩
set_option maxRecDepth 100000 in
set_option maxHeartbeats 3200000 in
theorem law_comb_no_nz_arg (h : Si w A l c zs) (n : Int) (k : Int) (hw : ¬ (0 ≤ n ∧ n ≤ 30 ∧ 0 ≤ k ∧ k ≤ n)) {E : Int} (he : combErr l zs = E) (hne : ¬ E = 0) (r : Int) (hk : k < 0 ∨ 30 < k) :
    Calls Try.prog 9 #[.int .i64 n, .int .i64 k, .slice A l c, .int .i64 r] w fun e w' => e = .returned (.bool true) ∧ Below w.heap.size w w' := by
  have hm := h.len_max
  have HW := hide hw
  clear hw
  have HE := hide he
  have HNE := hide hne
  have j1 : (E != 0) = true := by simpa using hne
  clear he hne
  have HK := hide hk
  clear hk
  go_enter Try.func9, Try.ntmps9
  go_wp2_with fail
  refine (ways_noB n k HW.out _).mono ?_
  rintro e w1 ⟨rfl, hb1⟩
  have kw1 : Below w.heap.size w w1 := below_on (by repeat' (first | assumption | with_reducible exact Below.refl _ _ | with_reducible apply Below.drew | with_reducible apply below_drewN | with_reducible apply below_alloc | with_reducible refine below_set ?_ ?_ _ | (simp only [World.size_alloc, World.heap_drewN]; omega) | (simp; omega))) hb1
  have zw1 := kw1.size
  have sl_1 := (h).on kw1
  try simp only [World.size_alloc, World.heap_drewN] at zw1
  go_wp2_with fail
  refine (rank_bad sl_1 HE.out HNE.out).mono ?_
  rintro e w2 ⟨rfl, hb2⟩
  have kw2 : Below w.heap.size w w2 := below_on (by repeat' (first | assumption | with_reducible exact Below.refl _ _ | with_reducible apply Below.drew | with_reducible apply below_drewN | with_reducible apply below_alloc | with_reducible refine below_set ?_ ?_ _ | (simp only [World.size_alloc, World.heap_drewN]; omega) | (simp; omega))) hb2
  have zw2 := kw2.size
  have sl_2 := (h).on kw2
  try simp only [World.size_alloc, World.heap_drewN] at zw2
  go_wp2_with fail
  refine (some_argB k r HK.out _).mono ?_
  rintro e w3 ⟨rfl, hb3⟩
  have kw3 : Below w.heap.size w w3 := below_on (by repeat' (first | assumption | with_reducible exact Below.refl _ _ | with_reducible apply Below.drew | with_reducible apply below_drewN | with_reducible apply below_alloc | with_reducible refine below_set ?_ ?_ _ | (simp only [World.size_alloc, World.heap_drewN]; omega) | (simp; omega))) hb3
  have zw3 := kw3.size
  have sl_3 := (h).on kw3
  try simp only [World.size_alloc, World.heap_drewN] at zw3
  go_wp2_with fail
  refine (rcomb_is sl_3 HE.out).mono ?_
  rintro e w4 ⟨rfl, hb4⟩
  have kw4 : Below w.heap.size w w4 := below_on (by repeat' (first | assumption | with_reducible exact Below.refl _ _ | with_reducible apply Below.drew | with_reducible apply below_drewN | with_reducible apply below_alloc | with_reducible refine below_set ?_ ?_ _ | (simp only [World.size_alloc, World.heap_drewN]; omega) | (simp; omega))) hb4
  have zw4 := kw4.size
  have sl_4 := (h).on kw4
  try simp only [World.size_alloc, World.heap_drewN] at zw4
  go_wp2_with fail
  refine (combCheck_is sl_4 HE.out).mono ?_
  rintro e w5 ⟨rfl, hb5⟩
  have kw5 : Below w.heap.size w w5 := below_on (by repeat' (first | assumption | with_reducible exact Below.refl _ _ | with_reducible apply Below.drew | with_reducible apply below_drewN | with_reducible apply below_alloc | with_reducible refine below_set ?_ ?_ _ | (simp only [World.size_alloc, World.heap_drewN]; omega) | (simp; omega))) hb5
  have zw5 := kw5.size
  have sl_5 := (h).on kw5
  try simp only [World.size_alloc, World.heap_drewN] at zw5
  go_wp2_with fail
  refine (combCheck_is (xs := [-1]) (Sl.blk 1 1 (e := 3) (by simp only [heap_alloc_get, World.size_alloc]; simp [ints]) rfl (by simp [maxLen])) comb_one).mono ?_
  rintro e w6 ⟨rfl, hb6⟩
  have kw6 : Below w.heap.size w w6 := below_on (by repeat' (first | assumption | with_reducible exact Below.refl _ _ | with_reducible apply Below.drew | with_reducible apply below_drewN | with_reducible apply below_alloc | with_reducible refine below_set ?_ ?_ _ | (simp only [World.size_alloc, World.heap_drewN]; omega) | (simp; omega))) hb6
  have zw6 := kw6.size
  have sl_6 := (h).on kw6
  try simp only [World.size_alloc, World.heap_drewN] at zw6
  all_goals go_wp2_with fail
  all_goals (try (exfalso; have := HW.out; omega))
  all_goals (try (exfalso; have := HK.out; omega))
  all_goals go_ret
  all_goals exact ⟨rfl, kw6⟩
set_option maxRecDepth 100000 in
set_option maxHeartbeats 3200000 in
theorem law_comb_no_nz_neg (h : Si w A l c zs) (n : Int) (k : Nat) (hk30 : k ≤ 30) (hw : ¬ (0 ≤ n ∧ n ≤ 30 ∧ 0 ≤ (k : Int) ∧ (k : Int) ≤ n)) {E : Int} (he : combErr l zs = E) (hne : ¬ E = 0) (r : Int) (hr : r < 0) :
    Calls Try.prog 9 #[.int .i64 n, .int .i64 k, .slice A l c, .int .i64 r] w fun e w' => e = .returned (.bool true) ∧ Below w.heap.size w w' := by
  have hm := h.len_max
  have HW := hide hw
  clear hw
  have HE := hide he
  have HNE := hide hne
  have j1 : (E != 0) = true := by simpa using hne
  clear he hne
  have ik : (k : Int) ≤ 30 := by omega
  have HS := hide (show r < 0 ∨ (bin 30 k : Int) ≤ r from .inl hr)
  go_enter Try.func9, Try.ntmps9
  go_wp2_with fail
  refine (ways_noB n k HW.out _).mono ?_
  rintro e w1 ⟨rfl, hb1⟩
  have kw1 : Below w.heap.size w w1 := below_on (by repeat' (first | assumption | with_reducible exact Below.refl _ _ | with_reducible apply Below.drew | with_reducible apply below_drewN | with_reducible apply below_alloc | with_reducible refine below_set ?_ ?_ _ | (simp only [World.size_alloc, World.heap_drewN]; omega) | (simp; omega))) hb1
  have zw1 := kw1.size
  have sl_1 := (h).on kw1
  try simp only [World.size_alloc, World.heap_drewN] at zw1
  go_wp2_with fail
  refine (rank_bad sl_1 HE.out HNE.out).mono ?_
  rintro e w2 ⟨rfl, hb2⟩
  have kw2 : Below w.heap.size w w2 := below_on (by repeat' (first | assumption | with_reducible exact Below.refl _ _ | with_reducible apply Below.drew | with_reducible apply below_drewN | with_reducible apply below_alloc | with_reducible refine below_set ?_ ?_ _ | (simp only [World.size_alloc, World.heap_drewN]; omega) | (simp; omega))) hb2
  have zw2 := kw2.size
  have sl_2 := (h).on kw2
  try simp only [World.size_alloc, World.heap_drewN] at zw2
  go_wp2_with fail
  refine (some_noneB k r hk30 HS.out _).mono ?_
  rintro e w3 ⟨rfl, hb3⟩
  have kw3 : Below w.heap.size w w3 := below_on (by repeat' (first | assumption | with_reducible exact Below.refl _ _ | with_reducible apply Below.drew | with_reducible apply below_drewN | with_reducible apply below_alloc | with_reducible refine below_set ?_ ?_ _ | (simp only [World.size_alloc, World.heap_drewN]; omega) | (simp; omega))) hb3
  have zw3 := kw3.size
  have sl_3 := (h).on kw3
  try simp only [World.size_alloc, World.heap_drewN] at zw3
  go_wp2_with fail
  refine (rcomb_is sl_3 HE.out).mono ?_
  rintro e w4 ⟨rfl, hb4⟩
  have kw4 : Below w.heap.size w w4 := below_on (by repeat' (first | assumption | with_reducible exact Below.refl _ _ | with_reducible apply Below.drew | with_reducible apply below_drewN | with_reducible apply below_alloc | with_reducible refine below_set ?_ ?_ _ | (simp only [World.size_alloc, World.heap_drewN]; omega) | (simp; omega))) hb4
  have zw4 := kw4.size
  have sl_4 := (h).on kw4
  try simp only [World.size_alloc, World.heap_drewN] at zw4
  go_wp2_with fail
  refine (combCheck_is sl_4 HE.out).mono ?_
  rintro e w5 ⟨rfl, hb5⟩
  have kw5 : Below w.heap.size w w5 := below_on (by repeat' (first | assumption | with_reducible exact Below.refl _ _ | with_reducible apply Below.drew | with_reducible apply below_drewN | with_reducible apply below_alloc | with_reducible refine below_set ?_ ?_ _ | (simp only [World.size_alloc, World.heap_drewN]; omega) | (simp; omega))) hb5
  have zw5 := kw5.size
  have sl_5 := (h).on kw5
  try simp only [World.size_alloc, World.heap_drewN] at zw5
  go_wp2_with fail
  refine (combCheck_is (xs := [-1]) (Sl.blk 1 1 (e := 3) (by simp only [heap_alloc_get, World.size_alloc]; simp [ints]) rfl (by simp [maxLen])) comb_one).mono ?_
  rintro e w6 ⟨rfl, hb6⟩
  have kw6 : Below w.heap.size w w6 := below_on (by repeat' (first | assumption | with_reducible exact Below.refl _ _ | with_reducible apply Below.drew | with_reducible apply below_drewN | with_reducible apply below_alloc | with_reducible refine below_set ?_ ?_ _ | (simp only [World.size_alloc, World.heap_drewN]; omega) | (simp; omega))) hb6
  have zw6 := kw6.size
  have sl_6 := (h).on kw6
  try simp only [World.size_alloc, World.heap_drewN] at zw6
  all_goals go_wp2_with fail
  all_goals (try (exfalso; have := HW.out; omega))
  all_goals go_ret
  all_goals exact ⟨rfl, kw6⟩
set_option maxRecDepth 100000 in
set_option maxHeartbeats 3200000 in
theorem law_comb_no_nz_big (h : Si w A l c zs) (n : Int) (k : Nat) (hk30 : k ≤ 30) (hw : ¬ (0 ≤ n ∧ n ≤ 30 ∧ 0 ≤ (k : Int) ∧ (k : Int) ≤ n)) {E : Int} (he : combErr l zs = E) (hne : ¬ E = 0) (r : Int) (hr : 0 ≤ r) (hr2 : (bin 30 k : Int) ≤ r) :
    Calls Try.prog 9 #[.int .i64 n, .int .i64 k, .slice A l c, .int .i64 r] w fun e w' => e = .returned (.bool true) ∧ Below w.heap.size w w' := by
  have hm := h.len_max
  have HW := hide hw
  clear hw
  have HE := hide he
  have HNE := hide hne
  have j1 : (E != 0) = true := by simpa using hne
  clear he hne
  have ik : (k : Int) ≤ 30 := by omega
  have HS := hide (show r < 0 ∨ (bin 30 k : Int) ≤ r from .inr hr2)
  have hbb := fun w => rways_any 30 k (by omega) w
  have hr3 : (bin 30 k : Int) ≤ r := by omega
  clear hr2
  obtain ⟨b, hbe⟩ : ∃ b, bin 30 k = b := ⟨_, rfl⟩
  rw [hbe] at hbb hr3
  have HB := hide hbb
  clear hbb hbe
  go_enter Try.func9, Try.ntmps9
  go_wp2_with fail
  refine (ways_noB n k HW.out _).mono ?_
  rintro e w1 ⟨rfl, hb1⟩
  have kw1 : Below w.heap.size w w1 := below_on (by repeat' (first | assumption | with_reducible exact Below.refl _ _ | with_reducible apply Below.drew | with_reducible apply below_drewN | with_reducible apply below_alloc | with_reducible refine below_set ?_ ?_ _ | (simp only [World.size_alloc, World.heap_drewN]; omega) | (simp; omega))) hb1
  have zw1 := kw1.size
  have sl_1 := (h).on kw1
  try simp only [World.size_alloc, World.heap_drewN] at zw1
  go_wp2_with fail
  refine (rank_bad sl_1 HE.out HNE.out).mono ?_
  rintro e w2 ⟨rfl, hb2⟩
  have kw2 : Below w.heap.size w w2 := below_on (by repeat' (first | assumption | with_reducible exact Below.refl _ _ | with_reducible apply Below.drew | with_reducible apply below_drewN | with_reducible apply below_alloc | with_reducible refine below_set ?_ ?_ _ | (simp only [World.size_alloc, World.heap_drewN]; omega) | (simp; omega))) hb2
  have zw2 := kw2.size
  have sl_2 := (h).on kw2
  try simp only [World.size_alloc, World.heap_drewN] at zw2
  go_wp2_with fail
  refine (some_noneB k r hk30 HS.out _).mono ?_
  rintro e w3 ⟨rfl, hb3⟩
  have kw3 : Below w.heap.size w w3 := below_on (by repeat' (first | assumption | with_reducible exact Below.refl _ _ | with_reducible apply Below.drew | with_reducible apply below_drewN | with_reducible apply below_alloc | with_reducible refine below_set ?_ ?_ _ | (simp only [World.size_alloc, World.heap_drewN]; omega) | (simp; omega))) hb3
  have zw3 := kw3.size
  have sl_3 := (h).on kw3
  try simp only [World.size_alloc, World.heap_drewN] at zw3
  go_wp2_with fail
  refine (rcomb_is sl_3 HE.out).mono ?_
  rintro e w4 ⟨rfl, hb4⟩
  have kw4 : Below w.heap.size w w4 := below_on (by repeat' (first | assumption | with_reducible exact Below.refl _ _ | with_reducible apply Below.drew | with_reducible apply below_drewN | with_reducible apply below_alloc | with_reducible refine below_set ?_ ?_ _ | (simp only [World.size_alloc, World.heap_drewN]; omega) | (simp; omega))) hb4
  have zw4 := kw4.size
  have sl_4 := (h).on kw4
  try simp only [World.size_alloc, World.heap_drewN] at zw4
  go_wp2_with fail
  refine (combCheck_is sl_4 HE.out).mono ?_
  rintro e w5 ⟨rfl, hb5⟩
  have kw5 : Below w.heap.size w w5 := below_on (by repeat' (first | assumption | with_reducible exact Below.refl _ _ | with_reducible apply Below.drew | with_reducible apply below_drewN | with_reducible apply below_alloc | with_reducible refine below_set ?_ ?_ _ | (simp only [World.size_alloc, World.heap_drewN]; omega) | (simp; omega))) hb5
  have zw5 := kw5.size
  have sl_5 := (h).on kw5
  try simp only [World.size_alloc, World.heap_drewN] at zw5
  go_wp2_with fail
  refine (combCheck_is (xs := [-1]) (Sl.blk 1 1 (e := 3) (by simp only [heap_alloc_get, World.size_alloc]; simp [ints]) rfl (by simp [maxLen])) comb_one).mono ?_
  rintro e w6 ⟨rfl, hb6⟩
  have kw6 : Below w.heap.size w w6 := below_on (by repeat' (first | assumption | with_reducible exact Below.refl _ _ | with_reducible apply Below.drew | with_reducible apply below_drewN | with_reducible apply below_alloc | with_reducible refine below_set ?_ ?_ _ | (simp only [World.size_alloc, World.heap_drewN]; omega) | (simp; omega))) hb6
  have zw6 := kw6.size
  have sl_6 := (h).on kw6
  try simp only [World.size_alloc, World.heap_drewN] at zw6
  all_goals go_wp2_with fail
  all_goals (try (exfalso; have := HW.out; omega))
  all_goals refine (HB.out _).mono ?_
  all_goals rintro e w7 ⟨rfl, hb7⟩
  all_goals have kw7 : Below w.heap.size w w7 := below_on (by repeat' (first | assumption | with_reducible exact Below.refl _ _ | with_reducible apply Below.drew | with_reducible apply below_drewN | with_reducible apply below_alloc | with_reducible refine below_set ?_ ?_ _ | (simp only [World.size_alloc, World.heap_drewN]; omega) | (simp; omega))) hb7
  all_goals have zw7 := kw7.size
  all_goals have sl_7 := (h).on kw7
  all_goals try simp only [World.size_alloc, World.heap_drewN] at zw7
  all_goals go_wp2_with fail
  all_goals (try (exfalso; have := HW.out; omega))
  all_goals go_ret
  all_goals exact ⟨rfl, kw7⟩
set_option maxRecDepth 100000 in
set_option maxHeartbeats 3200000 in
theorem law_comb_no_nz_ok (h : Si w A l c zs) (n : Int) (k : Nat) (hk30 : k ≤ 30) (hw : ¬ (0 ≤ n ∧ n ≤ 30 ∧ 0 ≤ (k : Int) ∧ (k : Int) ≤ n)) {E : Int} (he : combErr l zs = E) (hne : ¬ E = 0) (r : Nat) (hr2 : r < bin 30 k) :
    Calls Try.prog 9 #[.int .i64 n, .int .i64 k, .slice A l c, .int .i64 r] w fun e w' => e = .returned (.bool true) ∧ Below w.heap.size w w' := by
  have hm := h.len_max
  have HW := hide hw
  clear hw
  have HE := hide he
  have HNE := hide hne
  have j1 : (E != 0) = true := by simpa using hne
  clear he hne
  have ik : (k : Int) ≤ 30 := by omega
  have HR := hide hr2
  have hbb := fun w => rways_any 30 k (by omega) w
  have hr3 : (r : Int) < (bin 30 k : Int) := by omega
  clear hr2
  obtain ⟨b, hbe⟩ : ∃ b, bin 30 k = b := ⟨_, rfl⟩
  rw [hbe] at hbb hr3
  have HB := hide hbb
  clear hbb hbe
  go_enter Try.func9, Try.ntmps9
  go_wp2_with fail
  refine (ways_noB n k HW.out _).mono ?_
  rintro e w1 ⟨rfl, hb1⟩
  have kw1 : Below w.heap.size w w1 := below_on (by repeat' (first | assumption | with_reducible exact Below.refl _ _ | with_reducible apply Below.drew | with_reducible apply below_drewN | with_reducible apply below_alloc | with_reducible refine below_set ?_ ?_ _ | (simp only [World.size_alloc, World.heap_drewN]; omega) | (simp; omega))) hb1
  have zw1 := kw1.size
  have sl_1 := (h).on kw1
  try simp only [World.size_alloc, World.heap_drewN] at zw1
  go_wp2_with fail
  refine (rank_bad sl_1 HE.out HNE.out).mono ?_
  rintro e w2 ⟨rfl, hb2⟩
  have kw2 : Below w.heap.size w w2 := below_on (by repeat' (first | assumption | with_reducible exact Below.refl _ _ | with_reducible apply Below.drew | with_reducible apply below_drewN | with_reducible apply below_alloc | with_reducible refine below_set ?_ ?_ _ | (simp only [World.size_alloc, World.heap_drewN]; omega) | (simp; omega))) hb2
  have zw2 := kw2.size
  have sl_2 := (h).on kw2
  try simp only [World.size_alloc, World.heap_drewN] at zw2
  go_wp2_with fail
  refine (some_ok k r hk30 HR.out _).mono ?_
  rintro e w3 ⟨A3, c3, ys, rfl, hy, hsi, hb3⟩
  have kw3 : Below w.heap.size w w3 := below_on (by repeat' (first | assumption | with_reducible exact Below.refl _ _ | with_reducible apply Below.drew | with_reducible apply below_drewN | with_reducible apply below_alloc | with_reducible refine below_set ?_ ?_ _ | (simp only [World.size_alloc, World.heap_drewN]; omega) | (simp; omega))) hb3
  have zw3 := kw3.size
  have sl_3 := (h).on kw3
  try simp only [World.size_alloc, World.heap_drewN] at zw3
  have HYS := hide hy
  clear hy
  go_wp2_with fail
  refine (rcomb_is sl_3 HE.out).mono ?_
  rintro e w4 ⟨rfl, hb4⟩
  have kw4 : Below w.heap.size w w4 := below_on (by repeat' (first | assumption | with_reducible exact Below.refl _ _ | with_reducible apply Below.drew | with_reducible apply below_drewN | with_reducible apply below_alloc | with_reducible refine below_set ?_ ?_ _ | (simp only [World.size_alloc, World.heap_drewN]; omega) | (simp; omega))) hb4
  have zw4 := kw4.size
  have kr4 : Below w3.heap.size w3 w4 := below_on (by repeat' (first | assumption | with_reducible exact Below.refl _ _ | with_reducible apply Below.drew | with_reducible apply below_drewN | with_reducible apply below_alloc | with_reducible refine below_set ?_ ?_ _ | (simp only [World.size_alloc, World.heap_drewN]; omega) | (simp; omega))) hb4
  have zr4 := kr4.size
  have sl_4 := (h).on kw4
  try simp only [World.size_alloc, World.heap_drewN] at zw4 zr4
  go_wp2_with fail
  refine (combCheck_is sl_4 HE.out).mono ?_
  rintro e w5 ⟨rfl, hb5⟩
  have kw5 : Below w.heap.size w w5 := below_on (by repeat' (first | assumption | with_reducible exact Below.refl _ _ | with_reducible apply Below.drew | with_reducible apply below_drewN | with_reducible apply below_alloc | with_reducible refine below_set ?_ ?_ _ | (simp only [World.size_alloc, World.heap_drewN]; omega) | (simp; omega))) hb5
  have zw5 := kw5.size
  have kr5 : Below w3.heap.size w3 w5 := below_on (by repeat' (first | assumption | with_reducible exact Below.refl _ _ | with_reducible apply Below.drew | with_reducible apply below_drewN | with_reducible apply below_alloc | with_reducible refine below_set ?_ ?_ _ | (simp only [World.size_alloc, World.heap_drewN]; omega) | (simp; omega))) hb5
  have zr5 := kr5.size
  have sl_5 := (h).on kw5
  try simp only [World.size_alloc, World.heap_drewN] at zw5 zr5
  go_wp2_with fail
  refine (combCheck_is (xs := [-1]) (Sl.blk 1 1 (e := 3) (by simp only [heap_alloc_get, World.size_alloc]; simp [ints]) rfl (by simp [maxLen])) comb_one).mono ?_
  rintro e w6 ⟨rfl, hb6⟩
  have kw6 : Below w.heap.size w w6 := below_on (by repeat' (first | assumption | with_reducible exact Below.refl _ _ | with_reducible apply Below.drew | with_reducible apply below_drewN | with_reducible apply below_alloc | with_reducible refine below_set ?_ ?_ _ | (simp only [World.size_alloc, World.heap_drewN]; omega) | (simp; omega))) hb6
  have zw6 := kw6.size
  have kr6 : Below w3.heap.size w3 w6 := below_on (by repeat' (first | assumption | with_reducible exact Below.refl _ _ | with_reducible apply Below.drew | with_reducible apply below_drewN | with_reducible apply below_alloc | with_reducible refine below_set ?_ ?_ _ | (simp only [World.size_alloc, World.heap_drewN]; omega) | (simp; omega))) hb6
  have zr6 := kr6.size
  have sl_6 := (h).on kw6
  try simp only [World.size_alloc, World.heap_drewN] at zw6 zr6
  all_goals go_wp2_with fail
  all_goals (try (exfalso; have := HW.out; omega))
  all_goals refine (HB.out _).mono ?_
  all_goals rintro e w7 ⟨rfl, hb7⟩
  all_goals have kw7 : Below w.heap.size w w7 := below_on (by repeat' (first | assumption | with_reducible exact Below.refl _ _ | with_reducible apply Below.drew | with_reducible apply below_drewN | with_reducible apply below_alloc | with_reducible refine below_set ?_ ?_ _ | (simp only [World.size_alloc, World.heap_drewN]; omega) | (simp; omega))) hb7
  all_goals have zw7 := kw7.size
  all_goals have kr7 : Below w3.heap.size w3 w7 := below_on (by repeat' (first | assumption | with_reducible exact Below.refl _ _ | with_reducible apply Below.drew | with_reducible apply below_drewN | with_reducible apply below_alloc | with_reducible refine below_set ?_ ?_ _ | (simp only [World.size_alloc, World.heap_drewN]; omega) | (simp; omega))) hb7
  all_goals have zr7 := kr7.size
  all_goals have sl_7 := (h).on kw7
  all_goals try simp only [World.size_alloc, World.heap_drewN] at zw7 zr7
  all_goals go_wp2_with fail
  all_goals (try (exfalso; have := HW.out; omega))
  all_goals refine (rsome_any k r _ hk30 HR.out).mono ?_
  all_goals rintro e w8 ⟨A5, c5, xs, rfl, hx, hox, hb8⟩
  all_goals have kw8 : Below w.heap.size w w8 := below_on (by repeat' (first | assumption | with_reducible exact Below.refl _ _ | with_reducible apply Below.drew | with_reducible apply below_drewN | with_reducible apply below_alloc | with_reducible refine below_set ?_ ?_ _ | (simp only [World.size_alloc, World.heap_drewN]; omega) | (simp; omega))) hb8
  all_goals have zw8 := kw8.size
  all_goals have kr8 : Below w3.heap.size w3 w8 := below_on (by repeat' (first | assumption | with_reducible exact Below.refl _ _ | with_reducible apply Below.drew | with_reducible apply below_drewN | with_reducible apply below_alloc | with_reducible refine below_set ?_ ?_ _ | (simp only [World.size_alloc, World.heap_drewN]; omega) | (simp; omega))) hb8
  all_goals have zr8 := kr8.size
  all_goals have sl_8 := (h).on kw8
  all_goals try simp only [World.size_alloc, World.heap_drewN] at zw8 zr8
  all_goals obtain rfl := SomOf.one HYS.out hx
  all_goals clear hx
  all_goals go_wp2_with fail
  all_goals (try (exfalso; have := HW.out; omega))
  all_goals refine (equal_yes A3 _ k c3 _ _ _ (hsi.on kr8) hox.sl).mono ?_
  all_goals rintro e wz ⟨rfl, q, rfl⟩
  all_goals have kz : Below w.heap.size w (w8.drewN q) := below_drewN kw8 q
  all_goals go_wp2_with fail
  all_goals (try (exfalso; have := HW.out; omega))
  all_goals go_ret
  all_goals exact ⟨rfl, kz⟩
end

theorem law_comb (n k : Int) (A : Option Addr) (l c : Nat) (zs : List Int) (r : Int) (w : World) (h : Si w A l c zs) :
    Calls Try.prog 9 #[.int .i64 n, .int .i64 k, .slice A l c, .int .i64 r] w fun e w' => e = .returned (.bool true) ∧ Below w.heap.size w w' := by
  by_cases hk : 0 ≤ k ∧ k ≤ 30
  · obtain ⟨hk1, hk2⟩ := hk
    obtain ⟨k, rfl⟩ := Int.eq_ofNat_of_zero_le hk1
    have hk30 : k ≤ 30 := by omega
    by_cases hw : 0 ≤ n ∧ n ≤ 30 ∧ 0 ≤ (k : Int) ∧ (k : Int) ≤ n
    · obtain ⟨a1, a2, a3, a4⟩ := hw
      obtain ⟨n, rfl⟩ := Int.eq_ofNat_of_zero_le a1
      by_cases he : combErr l zs = 0
      · by_cases r0 : r < 0
        · exact law_comb_ok_z_neg h n k (by omega) (by omega) he r r0
        · by_cases r1 : (bin 30 k : Int) ≤ r
          · exact law_comb_ok_z_big h n k (by omega) (by omega) he r (by omega) r1
          · obtain ⟨r, rfl⟩ := Int.eq_ofNat_of_zero_le (show 0 ≤ r by omega)
            exact law_comb_ok_z_ok h n k (by omega) (by omega) he r (by omega)
      · by_cases r0 : r < 0
        · exact law_comb_ok_nz_neg h n k (by omega) (by omega) rfl he r r0
        · by_cases r1 : (bin 30 k : Int) ≤ r
          · exact law_comb_ok_nz_big h n k (by omega) (by omega) rfl he r (by omega) r1
          · obtain ⟨r, rfl⟩ := Int.eq_ofNat_of_zero_le (show 0 ≤ r by omega)
            exact law_comb_ok_nz_ok h n k (by omega) (by omega) rfl he r (by omega)
    · by_cases he : combErr l zs = 0
      · by_cases r0 : r < 0
        · exact law_comb_no_z_neg h n k hk30 hw he r r0
        · by_cases r1 : (bin 30 k : Int) ≤ r
          · exact law_comb_no_z_big h n k hk30 hw he r (by omega) r1
          · obtain ⟨r, rfl⟩ := Int.eq_ofNat_of_zero_le (show 0 ≤ r by omega)
            exact law_comb_no_z_ok h n k hk30 hw he r (by omega)
      · by_cases r0 : r < 0
        · exact law_comb_no_nz_neg h n k hk30 hw rfl he r r0
        · by_cases r1 : (bin 30 k : Int) ≤ r
          · exact law_comb_no_nz_big h n k hk30 hw rfl he r (by omega) r1
          · obtain ⟨r, rfl⟩ := Int.eq_ofNat_of_zero_le (show 0 ≤ r by omega)
            exact law_comb_no_nz_ok h n k hk30 hw rfl he r (by omega)
  · by_cases he : combErr l zs = 0
    · exact law_comb_no_z_arg h n k (by omega) he r (by omega)
    · exact law_comb_no_nz_arg h n k (by omega) rfl he r (by omega)
end Go.Proofs.Ytgejpinepkockaa
