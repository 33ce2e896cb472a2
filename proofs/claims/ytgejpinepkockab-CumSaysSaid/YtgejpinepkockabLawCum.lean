/-
  The walk of the law CumSays, case by case. Condition: the slice reads as a list of numbers.
-/
import Derived.Test.YtgejpinepkockabCum4
import Derived.Test.YtgejpinepkockabEq
namespace Go.Proofs.Ytgejpinepkockab
open Go.RowKit

theorem w_023 : wErr 3 [0, 2, 3] = 0 := by decide
theorem s_023 : (2 : Int) < wsum [0, 2, 3] 3 := by decide
theorem falls_023 {i : Nat} (h : i < 3) (hf : Falls [0, 2, 3] 2 i) : i = 2 := by
  have h2 := hf.2
  have : i = 0 ∨ i = 1 ∨ i = 2 := by omega
  rcases this with rfl | rfl | rfl
  · exact absurd h2 (by decide)
  · exact absurd h2 (by decide)
  · rfl
section
variable {A : Option Addr} {n c : Nat} {xs : List Int} {w : World} {part k start : Int}
set_option maxRecDepth 20000 in
set_option maxHeartbeats 1600000 in
theorem law_cum_bad (h : Si w A n c xs) (he : ¬ wErr n xs = 0) :
    Calls Try.prog 4 #[.slice A n c, .int .i64 part, .int .i64 k, .int .i64 start] w fun e w' => e = .returned (.bool true) ∧ Below w.heap.size w w' := by
  obtain ⟨E, hE⟩ : ∃ E, wErr n xs = E := ⟨_, rfl⟩
  have HV := hide (wVal_bad he)
  rw [hE] at he
  have t1 : (E != 0) = true := by simpa using he
  have HE := hide hE
  have H0 := hide he
  clear hE he
  go_enter Try.func4, Try.ntmps4
  go_wp2_with fail
  refine (pick_bad h HE.out H0.out).mono ?_
  rintro e w1 ⟨rfl, hb1⟩
  go_wp2_with fail
  refine (even_bad (h.on hb1) HE.out H0.out).mono ?_
  rintro e w2 ⟨rfl, hb2⟩
  have k2 := below_on hb1 hb2
  go_wp2_with fail
  refine (pick_ok (xs := [0, 2, 3]) (Sl.blk 1 3 (e := 3) (by simp only [heap_alloc_get, World.size_alloc]; simp [ints]) rfl (by simp [maxLen])) w_023 (by decide) s_023).mono ?_
  rintro e w3 ⟨i3, hi3, hf3, rfl, hb3⟩
  have e3 := falls_023 hi3 hf3
  clear hf3
  subst e3
  have k3 : Below w.heap.size w w3 := below_on (by repeat' (first | assumption | with_reducible exact Below.refl _ _ | with_reducible apply Below.drew | with_reducible apply below_drewN | with_reducible apply below_alloc | with_reducible refine below_set ?_ ?_ _ | (simp only [World.size_alloc, World.heap_drewN]; omega) | (simp; omega))) hb3
  have b23 : Below w2.heap.size w2 w3 := below_on (by repeat' (first | assumption | with_reducible exact Below.refl _ _ | with_reducible apply Below.drew | with_reducible apply below_drewN | with_reducible apply below_alloc | with_reducible refine below_set ?_ ?_ _ | (simp only [World.size_alloc, World.heap_drewN]; omega) | (simp; omega))) hb3
  go_wp2_with fail
  refine (rweights_is (h.on k3) HV.out HE.out).mono ?_
  rintro e w4 ⟨rfl, hb4⟩
  have k4 := below_on k3 hb4
  go_wp2_with fail
  go_ret
  exact ⟨rfl, k4⟩
set_option maxRecDepth 20000 in
set_option maxHeartbeats 1600000 in
theorem law_cum_arg_arg (h : Si w A n c xs) (he : wErr n xs = 0) (hp : part < 0 ∨ wsum xs n ≤ part) (hv : evenBad k start (wsum xs n)) :
    Calls Try.prog 4 #[.slice A n c, .int .i64 part, .int .i64 k, .int .i64 start] w fun e w' => e = .returned (.bool true) ∧ Below w.heap.size w w' := by
  have HE := hide he
  have CP := hide (fun w h => pick_arg (w := w) (A := A) (c := c) h he hp)
  have CE := hide (fun w h => even_arg (w := w) (A := A) (c := c) h he hv)
  have keyV := evenBad_cases hv
  clear hv
  have keyP : part < 0 ∨ (¬ part < 0 ∧ wsum xs n ≤ part) := by omega
  clear hp
  obtain ⟨S, hS⟩ : ∃ S, wsum xs n = S := ⟨_, rfl⟩
  have HV := hide (show wVal n xs = S by rw [wVal, if_pos he, hS])
  rw [hS] at keyP keyV
  clear hS he
  rcases keyP with p1 | ⟨p1, p2⟩
  all_goals
    rcases keyV with q1 | ⟨q1, q2⟩ | ⟨q1, q2, q3⟩ | ⟨q1, q2, q3, q4⟩
    all_goals
      go_enter Try.func4, Try.ntmps4
      go_wp2_with fail
      refine (CP.out _ h).mono ?_
      rintro e w1 ⟨rfl, hb1⟩
      go_wp2_with fail
      refine (CE.out _ (h.on hb1)).mono ?_
      rintro e w2 ⟨rfl, hb2⟩
      have k2b := below_on hb1 hb2
      go_wp2_with fail
      refine (pick_ok (xs := [0, 2, 3]) (Sl.blk 1 3 (e := 3) (by simp only [heap_alloc_get, World.size_alloc]; simp [ints]) rfl (by simp [maxLen])) w_023 (by decide) s_023).mono ?_
      rintro e w3 ⟨i3, hi3, hf3, rfl, hb3⟩
      have e3 := falls_023 hi3 hf3
      clear hf3
      subst e3
      have k3 : Below w.heap.size w w3 := below_on (by repeat' (first | assumption | with_reducible exact Below.refl _ _ | with_reducible apply Below.drew | with_reducible apply below_drewN | with_reducible apply below_alloc | with_reducible refine below_set ?_ ?_ _ | (simp only [World.size_alloc, World.heap_drewN]; omega) | (simp; omega))) hb3
      have b23 : Below w2.heap.size w2 w3 := below_on (by repeat' (first | assumption | with_reducible exact Below.refl _ _ | with_reducible apply Below.drew | with_reducible apply below_drewN | with_reducible apply below_alloc | with_reducible refine below_set ?_ ?_ _ | (simp only [World.size_alloc, World.heap_drewN]; omega) | (simp; omega))) hb3
      go_wp2_with fail
      refine (rweights_is (h.on k3) HV.out HE.out).mono ?_
      rintro e w4 ⟨rfl, hb4⟩
      have k4 := below_on k3 hb4
      go_wp2_with fail
      go_ret
      exact ⟨rfl, k4⟩
set_option maxRecDepth 20000 in
set_option maxHeartbeats 1600000 in
theorem law_cum_arg_ok (h : Si w A n c xs) (he : wErr n xs = 0) (hp : part < 0 ∨ wsum xs n ≤ part) (k1 : 1 ≤ k) (k2 : k ≤ 1000) (s1 : 0 ≤ start) (s2 : start < wsum xs n) :
    Calls Try.prog 4 #[.slice A n c, .int .i64 part, .int .i64 k, .int .i64 start] w fun e w' => e = .returned (.bool true) ∧ Below w.heap.size w w' := by
  have HE := hide he
  have CP := hide (fun w h => pick_arg (w := w) (A := A) (c := c) h he hp)
  have CE := hide (fun w h => even_ok (w := w) (A := A) (c := c) h he k1 k2 s1 s2)
  obtain ⟨kn, rfl⟩ := Int.eq_ofNat_of_zero_le (show 0 ≤ k by omega)
  rw [Int.toNat_natCast] at CE
  have CF := hide (fun w h => reven_ok (w := w) (A := A) (c := c) (k := kn) h he (by omega) s1 s2)
  obtain ⟨L, hL⟩ : ∃ L, evenTo xs (wsum xs n) kn start n kn = L := ⟨_, rfl⟩
  rw [hL] at CE CF
  clear hL
  have keyP : part < 0 ∨ (¬ part < 0 ∧ wsum xs n ≤ part) := by omega
  clear hp
  obtain ⟨S, hS⟩ : ∃ S, wsum xs n = S := ⟨_, rfl⟩
  have HV := hide (show wVal n xs = S by rw [wVal, if_pos he, hS])
  rw [hS] at keyP s2
  clear hS he
  rcases keyP with p1 | ⟨p1, p2⟩
  all_goals
    go_enter Try.func4, Try.ntmps4
    go_wp2_with fail
    refine (CP.out _ h).mono ?_
    rintro e w1 ⟨rfl, hb1⟩
    go_wp2_with fail
    refine (CE.out _ (h.on hb1)).mono ?_
    rintro e w2 ⟨AE, cE, rfl, oE, hb2⟩
    have sE := oE.sl
    clear oE
    have k2b := below_on hb1 hb2
    go_wp2_with fail
    refine (pick_ok (xs := [0, 2, 3]) (Sl.blk 1 3 (e := 3) (by simp only [heap_alloc_get, World.size_alloc]; simp [ints]) rfl (by simp [maxLen])) w_023 (by decide) s_023).mono ?_
    rintro e w3 ⟨i3, hi3, hf3, rfl, hb3⟩
    have e3 := falls_023 hi3 hf3
    clear hf3
    subst e3
    have k3 : Below w.heap.size w w3 := below_on (by repeat' (first | assumption | with_reducible exact Below.refl _ _ | with_reducible apply Below.drew | with_reducible apply below_drewN | with_reducible apply below_alloc | with_reducible refine below_set ?_ ?_ _ | (simp only [World.size_alloc, World.heap_drewN]; omega) | (simp; omega))) hb3
    have b23 : Below w2.heap.size w2 w3 := below_on (by repeat' (first | assumption | with_reducible exact Below.refl _ _ | with_reducible apply Below.drew | with_reducible apply below_drewN | with_reducible apply below_alloc | with_reducible refine below_set ?_ ?_ _ | (simp only [World.size_alloc, World.heap_drewN]; omega) | (simp; omega))) hb3
    go_wp2_with fail
    refine (rweights_is (h.on k3) HV.out HE.out).mono ?_
    rintro e w4 ⟨rfl, hb4⟩
    have k4 := below_on k3 hb4
    go_wp2_with fail
    refine (CF.out _ (h.on k4)).mono ?_
    rintro e w6 ⟨AF, cF, rfl, oF, hb6⟩
    have k6 := below_on k4 hb6
    go_wp2_with fail
    refine (equal_yes AE AF n cE cF L _ (sE.on (below_on (below_on b23 hb4) hb6)) oF.sl).mono ?_
    rintro e w7 ⟨rfl, q7, rfl⟩
    have k7 := below_drewN k6 q7
    go_wp2_with fail
    go_ret
    exact ⟨rfl, k7⟩
set_option maxRecDepth 20000 in
set_option maxHeartbeats 1600000 in
theorem law_cum_ok_arg (h : Si w A n c xs) (he : wErr n xs = 0) (hp0 : 0 ≤ part) (hp : part < wsum xs n) (hv : evenBad k start (wsum xs n)) :
    Calls Try.prog 4 #[.slice A n c, .int .i64 part, .int .i64 k, .int .i64 start] w fun e w' => e = .returned (.bool true) ∧ Below w.heap.size w w' := by
  have HE := hide he
  have CP := hide (fun w h => pick_ok (w := w) (A := A) (c := c) h he hp0 hp)
  have CR := hide (fun w h j hj hF => rpick_ok (w := w) (A := A) (c := c) (j := j) h he hp0 hp hj hF)
  have CE := hide (fun w h => even_arg (w := w) (A := A) (c := c) h he hv)
  have keyV := evenBad_cases hv
  clear hv
  obtain ⟨S, hS⟩ : ∃ S, wsum xs n = S := ⟨_, rfl⟩
  have HV := hide (show wVal n xs = S by rw [wVal, if_pos he, hS])
  rw [hS] at hp keyV
  clear hS he
  rcases keyV with q1 | ⟨q1, q2⟩ | ⟨q1, q2, q3⟩ | ⟨q1, q2, q3, q4⟩
  all_goals
    go_enter Try.func4, Try.ntmps4
    go_wp2_with fail
    refine (CP.out _ h).mono ?_
    rintro e w1 ⟨i, hi, hf, rfl, hb1⟩
    have HF := hide hf
    clear hf
    go_wp2_with fail
    refine (CE.out _ (h.on hb1)).mono ?_
    rintro e w2 ⟨rfl, hb2⟩
    have k2b := below_on hb1 hb2
    go_wp2_with fail
    refine (pick_ok (xs := [0, 2, 3]) (Sl.blk 1 3 (e := 3) (by simp only [heap_alloc_get, World.size_alloc]; simp [ints]) rfl (by simp [maxLen])) w_023 (by decide) s_023).mono ?_
    rintro e w3 ⟨i3, hi3, hf3, rfl, hb3⟩
    have e3 := falls_023 hi3 hf3
    clear hf3
    subst e3
    have k3 : Below w.heap.size w w3 := below_on (by repeat' (first | assumption | with_reducible exact Below.refl _ _ | with_reducible apply Below.drew | with_reducible apply below_drewN | with_reducible apply below_alloc | with_reducible refine below_set ?_ ?_ _ | (simp only [World.size_alloc, World.heap_drewN]; omega) | (simp; omega))) hb3
    have b23 : Below w2.heap.size w2 w3 := below_on (by repeat' (first | assumption | with_reducible exact Below.refl _ _ | with_reducible apply Below.drew | with_reducible apply below_drewN | with_reducible apply below_alloc | with_reducible refine below_set ?_ ?_ _ | (simp only [World.size_alloc, World.heap_drewN]; omega) | (simp; omega))) hb3
    go_wp2_with fail
    refine (rweights_is (h.on k3) HV.out HE.out).mono ?_
    rintro e w4 ⟨rfl, hb4⟩
    have k4 := below_on k3 hb4
    go_wp2_with fail
    refine (CR.out _ (h.on k4) i hi HF.out).mono ?_
    rintro e w5 ⟨rfl, rfl⟩
    go_wp2_with fail
    go_ret
    exact ⟨rfl, k4⟩
set_option maxRecDepth 20000 in
set_option maxHeartbeats 1600000 in
theorem law_cum_ok_ok (h : Si w A n c xs) (he : wErr n xs = 0) (hp0 : 0 ≤ part) (hp : part < wsum xs n) (k1 : 1 ≤ k) (k2 : k ≤ 1000) (s1 : 0 ≤ start) (s2 : start < wsum xs n) :
    Calls Try.prog 4 #[.slice A n c, .int .i64 part, .int .i64 k, .int .i64 start] w fun e w' => e = .returned (.bool true) ∧ Below w.heap.size w w' := by
  have HE := hide he
  have CP := hide (fun w h => pick_ok (w := w) (A := A) (c := c) h he hp0 hp)
  have CR := hide (fun w h j hj hF => rpick_ok (w := w) (A := A) (c := c) (j := j) h he hp0 hp hj hF)
  have CE := hide (fun w h => even_ok (w := w) (A := A) (c := c) h he k1 k2 s1 s2)
  obtain ⟨kn, rfl⟩ := Int.eq_ofNat_of_zero_le (show 0 ≤ k by omega)
  rw [Int.toNat_natCast] at CE
  have CF := hide (fun w h => reven_ok (w := w) (A := A) (c := c) (k := kn) h he (by omega) s1 s2)
  obtain ⟨L, hL⟩ : ∃ L, evenTo xs (wsum xs n) kn start n kn = L := ⟨_, rfl⟩
  rw [hL] at CE CF
  clear hL
  obtain ⟨S, hS⟩ : ∃ S, wsum xs n = S := ⟨_, rfl⟩
  have HV := hide (show wVal n xs = S by rw [wVal, if_pos he, hS])
  rw [hS] at hp s2
  clear hS he
  go_enter Try.func4, Try.ntmps4
  go_wp2_with fail
  refine (CP.out _ h).mono ?_
  rintro e w1 ⟨i, hi, hf, rfl, hb1⟩
  have HF := hide hf
  clear hf
  go_wp2_with fail
  refine (CE.out _ (h.on hb1)).mono ?_
  rintro e w2 ⟨AE, cE, rfl, oE, hb2⟩
  have sE := oE.sl
  clear oE
  have k2b := below_on hb1 hb2
  go_wp2_with fail
  refine (pick_ok (xs := [0, 2, 3]) (Sl.blk 1 3 (e := 3) (by simp only [heap_alloc_get, World.size_alloc]; simp [ints]) rfl (by simp [maxLen])) w_023 (by decide) s_023).mono ?_
  rintro e w3 ⟨i3, hi3, hf3, rfl, hb3⟩
  have e3 := falls_023 hi3 hf3
  clear hf3
  subst e3
  have k3 : Below w.heap.size w w3 := below_on (by repeat' (first | assumption | with_reducible exact Below.refl _ _ | with_reducible apply Below.drew | with_reducible apply below_drewN | with_reducible apply below_alloc | with_reducible refine below_set ?_ ?_ _ | (simp only [World.size_alloc, World.heap_drewN]; omega) | (simp; omega))) hb3
  have b23 : Below w2.heap.size w2 w3 := below_on (by repeat' (first | assumption | with_reducible exact Below.refl _ _ | with_reducible apply Below.drew | with_reducible apply below_drewN | with_reducible apply below_alloc | with_reducible refine below_set ?_ ?_ _ | (simp only [World.size_alloc, World.heap_drewN]; omega) | (simp; omega))) hb3
  go_wp2_with fail
  refine (rweights_is (h.on k3) HV.out HE.out).mono ?_
  rintro e w4 ⟨rfl, hb4⟩
  have k4 := below_on k3 hb4
  go_wp2_with fail
  refine (CR.out _ (h.on k4) i hi HF.out).mono ?_
  rintro e w5 ⟨rfl, rfl⟩
  go_wp2_with fail
  refine (CF.out _ (h.on k4)).mono ?_
  rintro e w6 ⟨AF, cF, rfl, oF, hb6⟩
  have k6 := below_on k4 hb6
  go_wp2_with fail
  refine (equal_yes AE AF n cE cF L _ (sE.on (below_on (below_on b23 hb4) hb6)) oF.sl).mono ?_
  rintro e w7 ⟨rfl, q7, rfl⟩
  have k7 := below_drewN k6 q7
  go_wp2_with fail
  go_ret
  exact ⟨rfl, k7⟩
end
theorem law_cum (A : Option Addr) (n c : Nat) (xs : List Int) (part k start : Int) (w : World) (h : Si w A n c xs) :
    Calls Try.prog 4 #[.slice A n c, .int .i64 part, .int .i64 k, .int .i64 start] w fun e w' => e = .returned (.bool true) ∧ Below w.heap.size w w' := by
  by_cases he : wErr n xs = 0
  · by_cases hp : part < 0 ∨ wsum xs n ≤ part
    · by_cases hv : evenBad k start (wsum xs n)
      · exact law_cum_arg_arg h he hp hv
      · have hv' : ¬ (k < 1 ∨ 1000 < k ∨ start < 0 ∨ wsum xs n ≤ start) := hv
        exact law_cum_arg_ok h he hp (by omega) (by omega) (by omega) (by omega)
    · by_cases hv : evenBad k start (wsum xs n)
      · exact law_cum_ok_arg h he (by omega) (by omega) hv
      · have hv' : ¬ (k < 1 ∨ 1000 < k ∨ start < 0 ∨ wsum xs n ≤ start) := hv
        exact law_cum_ok_ok h he (by omega) (by omega) (by omega) (by omega) (by omega) (by omega)
  · exact law_cum_bad h he
end Go.Proofs.Ytgejpinepkockab
