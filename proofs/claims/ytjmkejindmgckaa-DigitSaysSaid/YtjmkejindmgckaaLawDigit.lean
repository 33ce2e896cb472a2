/-
  The walk of the law DigitSays, case by case. Condition: the slice reads as a list of numbers.
-/
import Derived.Test.YtjmkejindmgckaaDigit4
import Derived.Test.YtjmkejindmgckaaDigit6
import Derived.Test.YtjmkejindmgckaaEq
namespace Go.Proofs.Ytjmkejindmgckaa
open Go.RowKit

theorem order_is {A : Option Addr} {n c : Nat} {xs : List Int} {w : World} (h : Si w A n c xs) {E : Int} (he : digErr n xs = E) :
    Calls Try.prog 30 #[.slice A n c] w fun e w' => e = .returned (.int .i64 E) ∧ w = w' := by
  have k := order_any h; rw [he] at k; exact k
theorem dig_one : digErr 1 [1] = 1 := by decide
section
variable {A : Option Addr} {n c : Nat} {xs : List Int} {w : World} {m r : Int}
set_option maxRecDepth 20000 in
set_option maxHeartbeats 1600000 in
theorem law_digit_bad_arg (h : Si w A n c xs) (he : ¬ digErr n xs = 0) (hm : m < 0 ∨ 12 < m) :
    Calls Try.prog 6 #[.slice A n c, .int .i64 m, .int .i64 r] w fun e w' => e = .returned (.bool true) ∧ Below w.heap.size w w' := by
  have HO := hide (fun w => order_arg (w := w) (n := m) (r := r) hm)
  have key : m < 0 ∨ (¬ m < 0 ∧ 12 < m) := by omega
  clear hm
  obtain ⟨E, hE⟩ : ∃ E, digErr n xs = E := ⟨_, rfl⟩
  rw [hE] at he
  have t1 : (E != 0) = true := by simpa using he
  have HE := hide hE
  have HN0 := hide he
  clear hE he
  rcases key with k1 | ⟨k1, k2⟩
  all_goals
    go_enter Try.func6, Try.ntmps6
    go_wp2_with fail
    refine (rank_bad h HE.out HN0.out).mono ?_
    rintro e w1 ⟨rfl, hb1⟩
    go_wp2_with fail
    refine (HO.out _).mono ?_
    rintro e w2 ⟨rfl, rfl⟩
    have k2 := hb1
    go_wp2_with fail
    refine (order_is (h.on k2) HE.out).mono ?_
    rintro e w3 ⟨rfl, rfl⟩
    go_wp2_with fail
    refine (digCheck_is (h.on k2) HE.out).mono ?_
    rintro e w4 ⟨rfl, hb4⟩
    have k4 := below_on k2 hb4
    go_wp2_with fail
    refine (digCheck_is (xs := [1]) (Sl.blk 1 1 (e := 3) (by simp only [heap_alloc_get, World.size_alloc]; simp [ints]) rfl (by simp [maxLen])) dig_one).mono ?_
    rintro e w5 ⟨rfl, hb5⟩
    have k5 : Below w.heap.size w w5 := below_on (by repeat' (first | assumption | with_reducible exact Below.refl _ _ | with_reducible apply Below.drew | with_reducible apply below_drewN | with_reducible apply below_alloc | with_reducible refine below_set ?_ ?_ _ | (simp only [World.size_alloc, World.heap_drewN]; omega) | (simp; omega))) hb5
    go_wp2_with fail
    go_ret
    exact ⟨rfl, k5⟩
set_option maxRecDepth 20000 in
set_option maxHeartbeats 1600000 in
theorem law_digit_bad_none (h : Si w A n c xs) (he : ¬ digErr n xs = 0) (h0 : 0 ≤ m) (h12 : m ≤ 12) (hr : r < 0 ∨ (fac m.toNat : Int) ≤ r) :
    Calls Try.prog 6 #[.slice A n c, .int .i64 m, .int .i64 r] w fun e w' => e = .returned (.bool true) ∧ Below w.heap.size w w' := by
  obtain ⟨mn, rfl⟩ := Int.eq_ofNat_of_zero_le h0
  rw [Int.toNat_natCast] at hr
  have hm12 : mn ≤ 12 := by omega
  obtain ⟨f1, f2⟩ := fac_i hm12
  have HRF := hide (rfact_any mn hm12)
  have HO := hide (fun w => order_none (w := w) (r := r) hm12 hr)
  obtain ⟨F, hF⟩ : ∃ F, (fac mn : Int) = F := ⟨_, rfl⟩
  rw [hF] at f1 f2 hr HRF
  clear hF
  have key : r < 0 ∨ (¬ r < 0 ∧ F ≤ r) := by omega
  clear hr
  obtain ⟨E, hE⟩ : ∃ E, digErr n xs = E := ⟨_, rfl⟩
  rw [hE] at he
  have t1 : (E != 0) = true := by simpa using he
  have HE := hide hE
  have HN0 := hide he
  clear hE he
  rcases key with k1 | ⟨k1, k2⟩
  all_goals
    go_enter Try.func6, Try.ntmps6
    go_wp2_with fail
    refine (rank_bad h HE.out HN0.out).mono ?_
    rintro e w1 ⟨rfl, hb1⟩
    go_wp2_with fail
    refine (HO.out _).mono ?_
    rintro e w2 ⟨rfl, rfl⟩
    have k2 := hb1
    go_wp2_with fail
    refine (order_is (h.on k2) HE.out).mono ?_
    rintro e w3 ⟨rfl, rfl⟩
    go_wp2_with fail
    refine (digCheck_is (h.on k2) HE.out).mono ?_
    rintro e w4 ⟨rfl, hb4⟩
    have k4 := below_on k2 hb4
    go_wp2_with fail
    refine (digCheck_is (xs := [1]) (Sl.blk 1 1 (e := 3) (by simp only [heap_alloc_get, World.size_alloc]; simp [ints]) rfl (by simp [maxLen])) dig_one).mono ?_
    rintro e w5 ⟨rfl, hb5⟩
    have k5 : Below w.heap.size w w5 := below_on (by repeat' (first | assumption | with_reducible exact Below.refl _ _ | with_reducible apply Below.drew | with_reducible apply below_drewN | with_reducible apply below_alloc | with_reducible refine below_set ?_ ?_ _ | (simp only [World.size_alloc, World.heap_drewN]; omega) | (simp; omega))) hb5
    go_wp2_with fail
    go_wp2_with (first | (go_at_call 33; refine (HRF.out _).mono ?_; rintro e w' ⟨rfl, rfl⟩))
    go_ret
    exact ⟨rfl, k5⟩
set_option maxRecDepth 20000 in
set_option maxHeartbeats 1600000 in
theorem law_digit_bad_ok (h : Si w A n c xs) (he : ¬ digErr n xs = 0) (h0 : 0 ≤ m) (h12 : m ≤ 12) (hr0 : 0 ≤ r) (hr : r < (fac m.toNat : Int)) :
    Calls Try.prog 6 #[.slice A n c, .int .i64 m, .int .i64 r] w fun e w' => e = .returned (.bool true) ∧ Below w.heap.size w w' := by
  obtain ⟨mn, rfl⟩ := Int.eq_ofNat_of_zero_le h0
  rw [Int.toNat_natCast] at hr
  have hm12 : mn ≤ 12 := by omega
  obtain ⟨f1, f2⟩ := fac_i hm12
  have HRF := hide (rfact_any mn hm12)
  obtain ⟨rn, rfl⟩ := Int.eq_ofNat_of_zero_le hr0
  have hrn : rn < fac mn := by omega
  have HO := hide (fun w => order_ok (w := w) hm12 hrn)
  rw [unr_range hrn] at HO
  have HN := hide (fun w => nth_any mn hm12 rn w hrn)
  clear hrn
  obtain ⟨F, hF⟩ : ∃ F, (fac mn : Int) = F := ⟨_, rfl⟩
  rw [hF] at f1 f2 hr HRF
  clear hF
  obtain ⟨E, hE⟩ : ∃ E, digErr n xs = E := ⟨_, rfl⟩
  rw [hE] at he
  have t1 : (E != 0) = true := by simpa using he
  have HE := hide hE
  have HN0 := hide he
  clear hE he
  go_enter Try.func6, Try.ntmps6
  go_wp2_with fail
  refine (rank_bad h HE.out HN0.out).mono ?_
  rintro e w1 ⟨rfl, hb1⟩
  go_wp2_with fail
  refine (HO.out _).mono ?_
  rintro e w2 ⟨AO, cO, rfl, oO, hb2⟩
  have k2 := below_on hb1 hb2
  have sO := oO.sl
  clear oO
  go_wp2_with fail
  refine (order_is (h.on k2) HE.out).mono ?_
  rintro e w3 ⟨rfl, rfl⟩
  go_wp2_with fail
  refine (digCheck_is (h.on k2) HE.out).mono ?_
  rintro e w4 ⟨rfl, hb4⟩
  have k4 := below_on k2 hb4
  go_wp2_with fail
  refine (digCheck_is (xs := [1]) (Sl.blk 1 1 (e := 3) (by simp only [heap_alloc_get, World.size_alloc]; simp [ints]) rfl (by simp [maxLen])) dig_one).mono ?_
  rintro e w5 ⟨rfl, hb5⟩
  have k5 : Below w.heap.size w w5 := below_on (by repeat' (first | assumption | with_reducible exact Below.refl _ _ | with_reducible apply Below.drew | with_reducible apply below_drewN | with_reducible apply below_alloc | with_reducible refine below_set ?_ ?_ _ | (simp only [World.size_alloc, World.heap_drewN]; omega) | (simp; omega))) hb5
  have b45 : Below w4.heap.size w4 w5 := below_on (by repeat' (first | assumption | with_reducible exact Below.refl _ _ | with_reducible apply Below.drew | with_reducible apply below_drewN | with_reducible apply below_alloc | with_reducible refine below_set ?_ ?_ _ | (simp only [World.size_alloc, World.heap_drewN]; omega) | (simp; omega))) hb5
  go_wp2_with fail
  go_wp2_with (first | (go_at_call 33; refine (HRF.out _).mono ?_; rintro e w' ⟨rfl, rfl⟩))
  refine (HN.out _).mono ?_
  rintro e w7 ⟨AN, cN, rfl, oN, hb7⟩
  go_wp2_with fail
  refine (equal_yes AO AN mn cO cN (casts (nth mn rn)) _ (sO.on (below_on (below_on hb4 b45) hb7)) oN.sl).mono ?_
  rintro e w8 ⟨rfl, q8, rfl⟩
  have k8 := below_drewN (below_on k5 hb7) q8
  go_wp2_with fail
  go_ret
  exact ⟨rfl, k8⟩
set_option maxRecDepth 20000 in
set_option maxHeartbeats 1600000 in
theorem law_digit_ok_arg (h : Si w A n c xs) (he : digErr n xs = 0) (hm : m < 0 ∨ 12 < m) :
    Calls Try.prog 6 #[.slice A n c, .int .i64 m, .int .i64 r] w fun e w' => e = .returned (.bool true) ∧ Below w.heap.size w w' := by
  have HO := hide (fun w => order_arg (w := w) (n := m) (r := r) hm)
  have key : m < 0 ∨ (¬ m < 0 ∧ 12 < m) := by omega
  clear hm
  have HE := hide he
  obtain ⟨g1, g2⟩ := digErr_zero he
  obtain ⟨R, hR⟩ : ∃ R, rrTo n xs n = R := ⟨_, rfl⟩
  have HRR := hide hR
  have HRK := hide ((rank_same h.ilen g2).trans hR)
  have HG := hide g2
  clear he g2 hR
  rcases key with k1 | ⟨k1, k2⟩
  all_goals
    go_enter Try.func6, Try.ntmps6
    go_wp2_with fail
    refine (rank_ok h HE.out).mono ?_
    rintro e w1 ⟨rfl, hb1⟩
    rw [HRK.out]
    go_wp2_with fail
    refine (HO.out _).mono ?_
    rintro e w2 ⟨rfl, rfl⟩
    have k2 := hb1
    go_wp2_with fail
    refine (order_is (h.on k2) HE.out).mono ?_
    rintro e w3 ⟨rfl, rfl⟩
    go_wp2_with fail
    refine (digCheck_is (h.on k2) HE.out).mono ?_
    rintro e w4 ⟨rfl, hb4⟩
    have k4 := below_on k2 hb4
    go_wp2_with fail
    refine (digCheck_is (xs := [1]) (Sl.blk 1 1 (e := 3) (by simp only [heap_alloc_get, World.size_alloc]; simp [ints]) rfl (by simp [maxLen])) dig_one).mono ?_
    rintro e w5 ⟨rfl, hb5⟩
    have k5 : Below w.heap.size w w5 := below_on (by repeat' (first | assumption | with_reducible exact Below.refl _ _ | with_reducible apply Below.drew | with_reducible apply below_drewN | with_reducible apply below_alloc | with_reducible refine below_set ?_ ?_ _ | (simp only [World.size_alloc, World.heap_drewN]; omega) | (simp; omega))) hb5
    go_wp2_with fail
    refine (rrank_ok (h.on k5) g1 HG.out HRR.out).mono ?_
    rintro e w6 ⟨rfl, rfl⟩
    go_wp2_with fail
    go_ret
    exact ⟨rfl, k5⟩
set_option maxRecDepth 20000 in
set_option maxHeartbeats 1600000 in
theorem law_digit_ok_none (h : Si w A n c xs) (he : digErr n xs = 0) (h0 : 0 ≤ m) (h12 : m ≤ 12) (hr : r < 0 ∨ (fac m.toNat : Int) ≤ r) :
    Calls Try.prog 6 #[.slice A n c, .int .i64 m, .int .i64 r] w fun e w' => e = .returned (.bool true) ∧ Below w.heap.size w w' := by
  obtain ⟨mn, rfl⟩ := Int.eq_ofNat_of_zero_le h0
  rw [Int.toNat_natCast] at hr
  have hm12 : mn ≤ 12 := by omega
  obtain ⟨f1, f2⟩ := fac_i hm12
  have HRF := hide (rfact_any mn hm12)
  have HO := hide (fun w => order_none (w := w) (r := r) hm12 hr)
  obtain ⟨F, hF⟩ : ∃ F, (fac mn : Int) = F := ⟨_, rfl⟩
  rw [hF] at f1 f2 hr HRF
  clear hF
  have key : r < 0 ∨ (¬ r < 0 ∧ F ≤ r) := by omega
  clear hr
  have HE := hide he
  obtain ⟨g1, g2⟩ := digErr_zero he
  obtain ⟨R, hR⟩ : ∃ R, rrTo n xs n = R := ⟨_, rfl⟩
  have HRR := hide hR
  have HRK := hide ((rank_same h.ilen g2).trans hR)
  have HG := hide g2
  clear he g2 hR
  rcases key with k1 | ⟨k1, k2⟩
  all_goals
    go_enter Try.func6, Try.ntmps6
    go_wp2_with fail
    refine (rank_ok h HE.out).mono ?_
    rintro e w1 ⟨rfl, hb1⟩
    rw [HRK.out]
    go_wp2_with fail
    refine (HO.out _).mono ?_
    rintro e w2 ⟨rfl, rfl⟩
    have k2 := hb1
    go_wp2_with fail
    refine (order_is (h.on k2) HE.out).mono ?_
    rintro e w3 ⟨rfl, rfl⟩
    go_wp2_with fail
    refine (digCheck_is (h.on k2) HE.out).mono ?_
    rintro e w4 ⟨rfl, hb4⟩
    have k4 := below_on k2 hb4
    go_wp2_with fail
    refine (digCheck_is (xs := [1]) (Sl.blk 1 1 (e := 3) (by simp only [heap_alloc_get, World.size_alloc]; simp [ints]) rfl (by simp [maxLen])) dig_one).mono ?_
    rintro e w5 ⟨rfl, hb5⟩
    have k5 : Below w.heap.size w w5 := below_on (by repeat' (first | assumption | with_reducible exact Below.refl _ _ | with_reducible apply Below.drew | with_reducible apply below_drewN | with_reducible apply below_alloc | with_reducible refine below_set ?_ ?_ _ | (simp only [World.size_alloc, World.heap_drewN]; omega) | (simp; omega))) hb5
    go_wp2_with fail
    refine (rrank_ok (h.on k5) g1 HG.out HRR.out).mono ?_
    rintro e w6 ⟨rfl, rfl⟩
    go_wp2_with (first | (go_at_call 33; refine (HRF.out _).mono ?_; rintro e w' ⟨rfl, rfl⟩))
    go_ret
    exact ⟨rfl, k5⟩
set_option maxRecDepth 20000 in
set_option maxHeartbeats 1600000 in
theorem law_digit_ok_ok (h : Si w A n c xs) (he : digErr n xs = 0) (h0 : 0 ≤ m) (h12 : m ≤ 12) (hr0 : 0 ≤ r) (hr : r < (fac m.toNat : Int)) :
    Calls Try.prog 6 #[.slice A n c, .int .i64 m, .int .i64 r] w fun e w' => e = .returned (.bool true) ∧ Below w.heap.size w w' := by
  obtain ⟨mn, rfl⟩ := Int.eq_ofNat_of_zero_le h0
  rw [Int.toNat_natCast] at hr
  have hm12 : mn ≤ 12 := by omega
  obtain ⟨f1, f2⟩ := fac_i hm12
  have HRF := hide (rfact_any mn hm12)
  obtain ⟨rn, rfl⟩ := Int.eq_ofNat_of_zero_le hr0
  have hrn : rn < fac mn := by omega
  have HO := hide (fun w => order_ok (w := w) hm12 hrn)
  rw [unr_range hrn] at HO
  have HN := hide (fun w => nth_any mn hm12 rn w hrn)
  clear hrn
  obtain ⟨F, hF⟩ : ∃ F, (fac mn : Int) = F := ⟨_, rfl⟩
  rw [hF] at f1 f2 hr HRF
  clear hF
  have HE := hide he
  obtain ⟨g1, g2⟩ := digErr_zero he
  obtain ⟨R, hR⟩ : ∃ R, rrTo n xs n = R := ⟨_, rfl⟩
  have HRR := hide hR
  have HRK := hide ((rank_same h.ilen g2).trans hR)
  have HG := hide g2
  clear he g2 hR
  go_enter Try.func6, Try.ntmps6
  go_wp2_with fail
  refine (rank_ok h HE.out).mono ?_
  rintro e w1 ⟨rfl, hb1⟩
  rw [HRK.out]
  go_wp2_with fail
  refine (HO.out _).mono ?_
  rintro e w2 ⟨AO, cO, rfl, oO, hb2⟩
  have k2 := below_on hb1 hb2
  have sO := oO.sl
  clear oO
  go_wp2_with fail
  refine (order_is (h.on k2) HE.out).mono ?_
  rintro e w3 ⟨rfl, rfl⟩
  go_wp2_with fail
  refine (digCheck_is (h.on k2) HE.out).mono ?_
  rintro e w4 ⟨rfl, hb4⟩
  have k4 := below_on k2 hb4
  go_wp2_with fail
  refine (digCheck_is (xs := [1]) (Sl.blk 1 1 (e := 3) (by simp only [heap_alloc_get, World.size_alloc]; simp [ints]) rfl (by simp [maxLen])) dig_one).mono ?_
  rintro e w5 ⟨rfl, hb5⟩
  have k5 : Below w.heap.size w w5 := below_on (by repeat' (first | assumption | with_reducible exact Below.refl _ _ | with_reducible apply Below.drew | with_reducible apply below_drewN | with_reducible apply below_alloc | with_reducible refine below_set ?_ ?_ _ | (simp only [World.size_alloc, World.heap_drewN]; omega) | (simp; omega))) hb5
  have b45 : Below w4.heap.size w4 w5 := below_on (by repeat' (first | assumption | with_reducible exact Below.refl _ _ | with_reducible apply Below.drew | with_reducible apply below_drewN | with_reducible apply below_alloc | with_reducible refine below_set ?_ ?_ _ | (simp only [World.size_alloc, World.heap_drewN]; omega) | (simp; omega))) hb5
  go_wp2_with fail
  refine (rrank_ok (h.on k5) g1 HG.out HRR.out).mono ?_
  rintro e w6 ⟨rfl, rfl⟩
  go_wp2_with (first | (go_at_call 33; refine (HRF.out _).mono ?_; rintro e w' ⟨rfl, rfl⟩))
  refine (HN.out _).mono ?_
  rintro e w7 ⟨AN, cN, rfl, oN, hb7⟩
  go_wp2_with fail
  refine (equal_yes AO AN mn cO cN (casts (nth mn rn)) _ (sO.on (below_on (below_on hb4 b45) hb7)) oN.sl).mono ?_
  rintro e w8 ⟨rfl, q8, rfl⟩
  have k8 := below_drewN (below_on k5 hb7) q8
  go_wp2_with fail
  go_ret
  exact ⟨rfl, k8⟩
end
theorem law_digit (A : Option Addr) (n c : Nat) (xs : List Int) (m r : Int) (w : World) (h : Si w A n c xs) :
    Calls Try.prog 6 #[.slice A n c, .int .i64 m, .int .i64 r] w fun e w' => e = .returned (.bool true) ∧ Below w.heap.size w w' := by
  by_cases he : digErr n xs = 0
  · by_cases hm : m < 0 ∨ 12 < m
    · exact law_digit_ok_arg h he hm
    · by_cases hr : r < 0 ∨ (fac m.toNat : Int) ≤ r
      · exact law_digit_ok_none h he (by omega) (by omega) hr
      · exact law_digit_ok_ok h he (by omega) (by omega) (by omega) (by omega)
  · by_cases hm : m < 0 ∨ 12 < m
    · exact law_digit_bad_arg h he hm
    · by_cases hr : r < 0 ∨ (fac m.toNat : Int) ≤ r
      · exact law_digit_bad_none h he (by omega) (by omega) hr
      · exact law_digit_bad_ok h he (by omega) (by omega) (by omega) (by omega)
end Go.Proofs.Ytjmkejindmgckaa
