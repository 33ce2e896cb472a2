/-
  The walk of the law AliasSays. Condition: the slice reads as a list of numbers.
-/
import Derived.Test.YtjmkejindmgckaaRMake
import Derived.Test.YtjmkejindmgckaaEq
import Derived.Deep.RegionHeld3
namespace Go.Proofs.Ytjmkejindmgckaa
open Go.RowKit

section
variable {w : World} {A1 A2 B1 B2 : Option Addr} {n m c1 c2 d1 d2 : Nat} {xs ys : List Int} {S : Int}
set_option maxRecDepth 20000 in
set_option maxHeartbeats 1600000 in
theorem sameAlias_yes (h1 : Si w A1 n c1 xs) (h2 : Si w A2 m c2 ys) (k1 : Si w B1 n d1 xs) (k2 : Si w B2 m d2 ys) :
    Calls Try.prog 12 #[.agg #[.int .i64 S, .slice A1 n c1, .slice A2 m c2], .agg #[.int .i64 S, .slice B1 n d1, .slice B2 m d2]] w fun e w' => e = .returned (.bool true) ∧ Below w.heap.size w w' := by
  go_enter Try.func12, Try.ntmps12
  go_wp2_with fail
  refine (equal_yes A1 B1 n c1 d1 xs _ (h1.on (by repeat' (first | assumption | with_reducible exact Below.refl _ _ | with_reducible apply Below.drew | with_reducible apply below_drewN | with_reducible apply below_alloc | with_reducible refine below_set ?_ ?_ _ | (simp only [World.size_alloc, World.heap_drewN]; omega) | (simp; omega)))) (k1.on (by repeat' (first | assumption | with_reducible exact Below.refl _ _ | with_reducible apply Below.drew | with_reducible apply below_drewN | with_reducible apply below_alloc | with_reducible refine below_set ?_ ?_ _ | (simp only [World.size_alloc, World.heap_drewN]; omega) | (simp; omega))))).mono ?_
  rintro e w' ⟨rfl, q, rfl⟩
  go_wp2_with fail
  refine (equal_yes A2 B2 m c2 d2 ys _ (h2.on (by repeat' (first | assumption | with_reducible exact Below.refl _ _ | with_reducible apply Below.drew | with_reducible apply below_drewN | with_reducible apply below_alloc | with_reducible refine below_set ?_ ?_ _ | (simp only [World.size_alloc, World.heap_drewN]; omega) | (simp; omega)))) (k2.on (by repeat' (first | assumption | with_reducible exact Below.refl _ _ | with_reducible apply Below.drew | with_reducible apply below_drewN | with_reducible apply below_alloc | with_reducible refine below_set ?_ ?_ _ | (simp only [World.size_alloc, World.heap_drewN]; omega) | (simp; omega))))).mono ?_
  rintro e w' ⟨rfl, q2, rfl⟩
  go_wp2_with fail
  go_ret
  exact ⟨rfl, by repeat' (first | assumption | with_reducible exact Below.refl _ _ | with_reducible apply Below.drew | with_reducible apply below_drewN | with_reducible apply below_alloc | with_reducible refine below_set ?_ ?_ _ | (simp only [World.size_alloc, World.heap_drewN]; omega) | (simp; omega))⟩
end
section
variable {A : Option Addr} {n c : Nat} {xs : List Int} {w : World}
set_option maxRecDepth 20000 in
set_option maxHeartbeats 1600000 in
theorem make_bad (h : Si w A n c xs) {E : Int} (he : wErr n xs = E) (h0 : ¬ E = 0) :
    Calls Try.prog 11 #[.slice A n c] w fun e w' => e = .returned (.tuple #[.agg #[.int .i64 0, .slice none 0 0, .slice none 0 0], .int .i64 E]) ∧ Below w.heap.size w w' := by
  have t1 : (E != 0) = true := by simpa using h0
  have HV := hide (wVal_bad (n := n) (xs := xs) (by rw [he]; exact h0))
  have H := hide he
  clear he h0
  go_enter Try.func11, Try.ntmps11
  go_wp2_with fail
  refine (weights_is (h.on (by repeat' (first | assumption | with_reducible exact Below.refl _ _ | with_reducible apply Below.drew | with_reducible apply below_drewN | with_reducible apply below_alloc | with_reducible refine below_set ?_ ?_ _ | (simp only [World.size_alloc, World.heap_drewN]; omega) | (simp; omega)))) HV.out H.out).mono ?_
  rintro e w1 ⟨rfl, hb1⟩
  have hw1 : Below w.heap.size w w1 := below_on (by repeat' (first | assumption | with_reducible exact Below.refl _ _ | with_reducible apply Below.drew | with_reducible apply below_drewN | with_reducible apply below_alloc | with_reducible refine below_set ?_ ?_ _ | (simp only [World.size_alloc, World.heap_drewN]; omega) | (simp; omega))) hb1
  have rb1 := (Blk.new w 24 #[.int .i64 0, .slice none 0 0, .slice none 0 0]).below hb1 (Blk.new w 24 #[.int .i64 0, .slice none 0 0, .slice none 0 0]).lt
  have p0 : w1.cell? ⟨w.heap.size, 0, none⟩ = some (.int .i64 0) := rb1.at_ (i := 0) rfl
  have p1 : w1.cell? ⟨w.heap.size, 1, none⟩ = some (.slice none 0 0) := rb1.at_ (i := 1) rfl
  have p2 : w1.cell? ⟨w.heap.size, 2, none⟩ = some (.slice none 0 0) := rb1.at_ (i := 2) rfl
  have f0 := rb1.free 0
  have f1 := rb1.free 1
  have f2 := rb1.free 2
  go_wp2_with fail
  refine bodyPost_ret (v := .tuple #[.agg #[.int .i64 0, .slice none 0 0, .slice none 0 0], .int .i64 E]) (by simp [results, Try.results11, go_sem, p0, p1, p2]) rfl ⟨rfl, by repeat' (first | assumption | with_reducible exact Below.refl _ _ | with_reducible apply Below.drew | with_reducible apply below_drewN | with_reducible apply below_alloc | with_reducible refine below_set ?_ ?_ _ | (simp only [World.size_alloc, World.heap_drewN]; omega) | (simp; omega))⟩
theorem make13 (h : Si w A 2 c [1, 3]) : Calls Try.prog 11 #[.slice A 2 c] w (MakeRet w 4 2 ([2, 4], [1, 1])) := by
  have k := make_ok h (by decide)
  have e1 : wsum [1, 3] 2 = 4 := by decide
  have e2 : aliasOf 2 [1, 3] = ([2, 4], [1, 1]) := by decide
  rwa [e1, e2] at k
set_option maxRecDepth 20000 in
set_option maxHeartbeats 3200000 in
theorem law_make_bad (h : Si w A n c xs) (h0 : ¬ wErr n xs = 0) :
    Calls Try.prog 3 #[.slice A n c] w fun e w' => e = .returned (.bool true) ∧ Below w.heap.size w w' := by
  obtain ⟨E, hE⟩ : ∃ E, wErr n xs = E := ⟨_, rfl⟩
  have HV := hide (wVal_bad h0)
  rw [hE] at h0
  have t1 : (E != 0) = true := by simpa using h0
  have HE := hide hE
  have H0 := hide h0
  clear hE h0
  go_enter Try.func3, Try.ntmps3
  go_wp2_with fail
  refine (make_bad h HE.out H0.out).mono ?_
  rintro e w1 ⟨rfl, hb1⟩
  go_wp2_with fail
  refine (make13 (Sl.blk 1 2 (e := 3) (by simp only [heap_alloc_get, World.size_alloc]; simp [ints]) rfl (by simp [maxLen]))).mono ?_
  rintro e w2 ⟨B1, B2, rfl, oB1, oB2, hb2⟩
  have b12 : Below w1.heap.size w1 w2 := below_on (by repeat' (first | assumption | with_reducible exact Below.refl _ _ | with_reducible apply Below.drew | with_reducible apply below_drewN | with_reducible apply below_alloc | with_reducible refine below_set ?_ ?_ _ | (simp only [World.size_alloc, World.heap_drewN]; omega) | (simp; omega))) hb2
  have bka := ((Blk.new w1 24 #[.int .i64 0, .slice none 0 0, .slice none 0 0]).alloc (.cells #[.int .i64 1, .int .i64 3] 3)).below hb2 (by simp only [World.size_alloc]; omega)
  have sB1 := oB1.sl
  have sB2 := oB2.sl
  clear oB1 oB2
  go_wp2_with fail
  refine (sameAlias_yes (xs := [2, 4]) (ys := [1, 1]) (sB1.on (by repeat' (first | assumption | with_reducible exact Below.refl _ _ | with_reducible apply Below.drew | with_reducible apply below_drewN | with_reducible apply below_alloc | with_reducible refine below_set ?_ ?_ _ | (simp only [World.size_alloc, World.heap_drewN]; omega) | (simp; omega)))) (sB2.on (by repeat' (first | assumption | with_reducible exact Below.refl _ _ | with_reducible apply Below.drew | with_reducible apply below_drewN | with_reducible apply below_alloc | with_reducible refine below_set ?_ ?_ _ | (simp only [World.size_alloc, World.heap_drewN]; omega) | (simp; omega)))) (Sl.blk 1 2 (e := 3) (by simp only [heap_alloc_get, World.size_alloc]; simp [ints]) rfl (by simp [maxLen])) (Sl.blk 1 2 (e := 3) (by simp only [heap_alloc_get, World.size_alloc]; simp [ints]) rfl (by simp [maxLen]))).mono ?_
  rintro e w3 ⟨rfl, hb3⟩
  have b23 : Below w2.heap.size w2 w3 := below_on (by repeat' (first | assumption | with_reducible exact Below.refl _ _ | with_reducible apply Below.drew | with_reducible apply below_drewN | with_reducible apply below_alloc | with_reducible refine below_set ?_ ?_ _ | (simp only [World.size_alloc, World.heap_drewN]; omega) | (simp; omega))) hb3
  have bka3 := bka.below b23 bka.lt
  have b13 := below_on b12 b23
  have k3 := below_on hb1 b13
  clear bka hb2 hb3 sB1 sB2
  go_wp2_with fail
  refine (rweights_is (h.on k3) HV.out HE.out).mono ?_
  rintro e w4 ⟨rfl, hb4⟩
  have b14 := below_on b13 hb4
  have k4 := below_on k3 hb4
  have bka4 := bka3.below hb4 bka3.lt
  have p0 : w4.cell? ⟨w1.heap.size, 0, none⟩ = some (.int .i64 0) := bka4.at_ (i := 0) rfl
  have p1 : w4.cell? ⟨w1.heap.size, 1, none⟩ = some (.slice none 0 0) := bka4.at_ (i := 1) rfl
  have p2 : w4.cell? ⟨w1.heap.size, 2, none⟩ = some (.slice none 0 0) := bka4.at_ (i := 2) rfl
  go_wp2_with fail
  refine (sameAlias_yes (xs := []) (ys := []) (Sl.nil _ _ _) (Sl.nil _ _ _) (Sl.nil _ _ _) (Sl.nil _ _ _)).mono ?_
  rintro e w5 ⟨rfl, hb5⟩
  have k5 := below_on k4 hb5
  go_wp2_with fail
  go_ret
  exact ⟨rfl, k5⟩
set_option maxRecDepth 20000 in
set_option maxHeartbeats 3200000 in
theorem law_make_ok (h : Si w A n c xs) (h0 : wErr n xs = 0) :
    Calls Try.prog 3 #[.slice A n c] w fun e w' => e = .returned (.bool true) ∧ Below w.heap.size w w' := by
  obtain ⟨S, hS⟩ : ∃ S, wsum xs n = S := ⟨_, rfl⟩
  have HV := hide (show wVal n xs = S by rw [wVal, if_pos h0, hS])
  have CM := hide (fun (w : World) (h : Si w A n c xs) => make_ok h h0)
  have CR := hide (fun (w : World) (h : Si w A n c xs) => rmake_ok h h0)
  rw [hS] at CM CR
  obtain ⟨F, hF⟩ : ∃ F, aliasOf n xs = F := ⟨_, rfl⟩
  rw [hF] at CM CR
  obtain ⟨F1, F2⟩ := F
  have HE := hide h0
  clear hS hF h0
  go_enter Try.func3, Try.ntmps3
  go_wp2_with fail
  refine (CM.out _ h).mono ?_
  rintro e w1 ⟨A1, A2, rfl, oA1, oA2, hb1⟩
  have sA1 := oA1.sl
  have sA2 := oA2.sl
  clear oA1 oA2
  go_wp2_with fail
  refine (make13 (Sl.blk 1 2 (e := 3) (by simp only [heap_alloc_get, World.size_alloc]; simp [ints]) rfl (by simp [maxLen]))).mono ?_
  rintro e w2 ⟨B1, B2, rfl, oB1, oB2, hb2⟩
  have b12 : Below w1.heap.size w1 w2 := below_on (by repeat' (first | assumption | with_reducible exact Below.refl _ _ | with_reducible apply Below.drew | with_reducible apply below_drewN | with_reducible apply below_alloc | with_reducible refine below_set ?_ ?_ _ | (simp only [World.size_alloc, World.heap_drewN]; omega) | (simp; omega))) hb2
  have bka := ((Blk.new w1 24 #[.int .i64 S, .slice A1 n n, .slice A2 n n]).alloc (.cells #[.int .i64 1, .int .i64 3] 3)).below hb2 (by simp only [World.size_alloc]; omega)
  have sB1 := oB1.sl
  have sB2 := oB2.sl
  clear oB1 oB2
  go_wp2_with fail
  refine (sameAlias_yes (xs := [2, 4]) (ys := [1, 1]) (sB1.on (by repeat' (first | assumption | with_reducible exact Below.refl _ _ | with_reducible apply Below.drew | with_reducible apply below_drewN | with_reducible apply below_alloc | with_reducible refine below_set ?_ ?_ _ | (simp only [World.size_alloc, World.heap_drewN]; omega) | (simp; omega)))) (sB2.on (by repeat' (first | assumption | with_reducible exact Below.refl _ _ | with_reducible apply Below.drew | with_reducible apply below_drewN | with_reducible apply below_alloc | with_reducible refine below_set ?_ ?_ _ | (simp only [World.size_alloc, World.heap_drewN]; omega) | (simp; omega)))) (Sl.blk 1 2 (e := 3) (by simp only [heap_alloc_get, World.size_alloc]; simp [ints]) rfl (by simp [maxLen])) (Sl.blk 1 2 (e := 3) (by simp only [heap_alloc_get, World.size_alloc]; simp [ints]) rfl (by simp [maxLen]))).mono ?_
  rintro e w3 ⟨rfl, hb3⟩
  have b23 : Below w2.heap.size w2 w3 := below_on (by repeat' (first | assumption | with_reducible exact Below.refl _ _ | with_reducible apply Below.drew | with_reducible apply below_drewN | with_reducible apply below_alloc | with_reducible refine below_set ?_ ?_ _ | (simp only [World.size_alloc, World.heap_drewN]; omega) | (simp; omega))) hb3
  have bka3 := bka.below b23 bka.lt
  have b13 := below_on b12 b23
  have k3 := below_on hb1 b13
  clear bka hb2 hb3 sB1 sB2
  go_wp2_with fail
  refine (rweights_is (h.on k3) HV.out HE.out).mono ?_
  rintro e w4 ⟨rfl, hb4⟩
  have b14 := below_on b13 hb4
  have k4 := below_on k3 hb4
  have bka4 := bka3.below hb4 bka3.lt
  have hl4 := bka4.lt
  have p0 : w4.cell? ⟨w1.heap.size, 0, none⟩ = some (.int .i64 S) := bka4.at_ (i := 0) rfl
  have p1 : w4.cell? ⟨w1.heap.size, 1, none⟩ = some (.slice A1 n n) := bka4.at_ (i := 1) rfl
  have p2 : w4.cell? ⟨w1.heap.size, 2, none⟩ = some (.slice A2 n n) := bka4.at_ (i := 2) rfl
  have h4 := h.on k4
  have s14 := sA1.on b14
  have s24 := sA2.on b14
  go_wp2_with fail
  go_region_held3 (fun w' => Below w4.heap.size w4 w' ∧ w'.cell? ⟨w1.heap.size, 0, none⟩ = some (.int .i64 S) ∧ w'.cell? ⟨w1.heap.size, 1, none⟩ = some (.slice A1 n n) ∧ w'.cell? ⟨w1.heap.size, 2, none⟩ = some (.slice A2 n n)) ((refine and_below ?_ fun hk => ⟨(hk.cell (p := ⟨w1.heap.size, 0, none⟩) hl4).trans p0, (hk.cell (p := ⟨w1.heap.size, 1, none⟩) hl4).trans p1, (hk.cell (p := ⟨w1.heap.size, 2, none⟩) hl4).trans p2⟩; repeat' (first | assumption | with_reducible exact Below.refl _ _ | with_reducible apply Below.drew | with_reducible apply below_drewN | with_reducible apply below_alloc | with_reducible refine below_set ?_ ?_ _ | (simp only [World.size_alloc, World.heap_drewN]; omega) | (simp; omega))))
    (first
      | (go_at_call 14; refine (CR.out _ (h4.on (by repeat' (first | assumption | with_reducible exact Below.refl _ _ | with_reducible apply Below.drew | with_reducible apply below_drewN | with_reducible apply below_alloc | with_reducible refine below_set ?_ ?_ _ | (simp only [World.size_alloc, World.heap_drewN]; omega) | (simp; omega))))).mono ?_; rintro e w5 ⟨C1, C2, d1, d2, rfl, oC1, oC2, hb5⟩; have k45 : Below w4.heap.size w4 w5 := below_on (by repeat' (first | assumption | with_reducible exact Below.refl _ _ | with_reducible apply Below.drew | with_reducible apply below_drewN | with_reducible apply below_alloc | with_reducible refine below_set ?_ ?_ _ | (simp only [World.size_alloc, World.heap_drewN]; omega) | (simp; omega))) hb5)
      | (go_at_call 12; refine (sameAlias_yes (s14.on (by repeat' (first | assumption | with_reducible exact Below.refl _ _ | with_reducible apply Below.drew | with_reducible apply below_drewN | with_reducible apply below_alloc | with_reducible refine below_set ?_ ?_ _ | (simp only [World.size_alloc, World.heap_drewN]; omega) | (simp; omega)))) (s24.on (by repeat' (first | assumption | with_reducible exact Below.refl _ _ | with_reducible apply Below.drew | with_reducible apply below_drewN | with_reducible apply below_alloc | with_reducible refine below_set ?_ ?_ _ | (simp only [World.size_alloc, World.heap_drewN]; omega) | (simp; omega)))) (oC1.sl.on (by repeat' (first | assumption | with_reducible exact Below.refl _ _ | with_reducible apply Below.drew | with_reducible apply below_drewN | with_reducible apply below_alloc | with_reducible refine below_set ?_ ?_ _ | (simp only [World.size_alloc, World.heap_drewN]; omega) | (simp; omega)))) (oC2.sl.on (by repeat' (first | assumption | with_reducible exact Below.refl _ _ | with_reducible apply Below.drew | with_reducible apply below_drewN | with_reducible apply below_alloc | with_reducible refine below_set ?_ ?_ _ | (simp only [World.size_alloc, World.heap_drewN]; omega) | (simp; omega))))).mono ?_; rintro e w6 ⟨rfl, hb6⟩; have k46 : Below w4.heap.size w4 w6 := below_on (by repeat' (first | assumption | with_reducible exact Below.refl _ _ | with_reducible apply Below.drew | with_reducible apply below_drewN | with_reducible apply below_alloc | with_reducible refine below_set ?_ ?_ _ | (simp only [World.size_alloc, World.heap_drewN]; omega) | (simp; omega))) hb6))
  go_wp2_with fail
  go_ret
  exact ⟨rfl, below_on k4 k46⟩
end
theorem law_make (A : Option Addr) (n c : Nat) (xs : List Int) (w : World) (h : Si w A n c xs) :
    Calls Try.prog 3 #[.slice A n c] w fun e w' => e = .returned (.bool true) ∧ Below w.heap.size w w' := by
  by_cases h0 : wErr n xs = 0
  · exact law_make_ok h h0
  · exact law_make_bad h h0
end Go.Proofs.Ytjmkejindmgckaa
