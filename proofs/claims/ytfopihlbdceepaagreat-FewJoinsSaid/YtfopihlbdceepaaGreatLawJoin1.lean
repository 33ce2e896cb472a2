/-
  The walk of the law FewJoins, where they may not be. Conditions: the counters read as lists of pairs.
-/
import Derived.Test.YtfopihlbdceepaaGreatLawJoin0
namespace Go.Proofs.YtfopihlbdceepaaGreat
open Go.RowKit Go.Shelf Go.Maps
set_option linter.unusedVariables false

section
variable {A A2 A4 : Option Addr} {n c n2 c2 n4 c4 k : Nat} {l m : List Ct} {ls : List Int} {w : World} {K L K2 L2 : Int}
set_option maxRecDepth 100000 in
set_option maxHeartbeats 12800000 in
theorem law_join_bad1_b (h : Sp w A n c l) (h2 : Sp w A2 n2 c2 m) (h3 : Si w A4 n4 c4 ls) (hbig : 40 < n4) {E : Int} (hE : fwErr K L n l = E) (h0 : E ≠ 0) :
    Calls Tryz.prog 3 #[.agg #[.int .i64 K, .int .i64 L, .slice A n c], .agg #[.int .i64 K2, .int .i64 L2, .slice A2 n2 c2], .slice A4 n4 c4] w fun e w' => e = .returned (.bool true) ∧ Below w.heap.size w w' := by
  have t1 : (E != 0) = true := by simpa using h0
  have t2 : (E == 0) = false := by simpa using h0
  have t3 : (E == E) = true := by simp
  have HN := hide h0
  have HE := hide hE
  clear hE h0
  have tb : (40 : Int) < (n4 : Int) := by omega
  have pf_0 := (Blk.new w 24 #[.int .i64 K, .int .i64 L, .slice A n c]).alloc (.cells #[.int .i64 K2, .int .i64 L2, .slice A2 n2 c2] 24)
  have pg_0 := Blk.new (w.alloc (.cells #[.int .i64 K, .int .i64 L, .slice A n c] 24)) 24 #[.int .i64 K2, .int .i64 L2, .slice A2 n2 c2]
  rw [World.size_alloc] at pg_0
  have k_0 : Below w.heap.size w ((w.alloc (.cells #[.int .i64 K, .int .i64 L, .slice A n c] 24)).alloc (.cells #[.int .i64 K2, .int .i64 L2, .slice A2 n2 c2] 24)) := by repeat' (first | assumption | with_reducible exact Below.refl _ _ | with_reducible apply Below.drew | with_reducible apply below_drewN | with_reducible apply below_alloc | with_reducible refine below_set ?_ ?_ _ | (simp only [World.size_alloc, World.heap_drewN]; omega) | (simp; omega))
  go_enter Tryz.func3, Tryz.ntmps3
  have f_pf0_0 := pf_0.at_ (i := 0) (u := .int .i64 K) rfl
  have f_pf1_0 := pf_0.at_ (i := 1) (u := .int .i64 L) rfl
  have f_pf2_0 := pf_0.at_ (i := 2) (u := .slice A n c) rfl
  have f_pg0_0 := pg_0.at_ (i := 0) (u := .int .i64 K2) rfl
  have f_pg1_0 := pg_0.at_ (i := 1) (u := .int .i64 L2) rfl
  have f_pg2_0 := pg_0.at_ (i := 2) (u := .slice A2 n2 c2) rfl
  go_wp2_with fail
  refine (fjoin_bad1 (h.on k_0) HE.out HN.out).mono ?_
  rintro e w1 ⟨rfl, b_1⟩
  clear f_pf0_0 f_pf1_0 f_pf2_0 f_pg0_0 f_pg1_0 f_pg2_0
  have pf_1 := pf_0.below b_1 pf_0.lt
  have pg_1 := pg_0.below b_1 pg_0.lt
  have k_1 := below_on k_0 b_1
  clear pf_0 pg_0
  have pf_2 := pf_1.alloc (.cells #[.int .i64 0, .int .i64 0, .slice none 0 0] 24)
  have pg_2 := pg_1.alloc (.cells #[.int .i64 0, .int .i64 0, .slice none 0 0] 24)
  have k_2 := below_alloc k_1 (.cells #[.int .i64 0, .int .i64 0, .slice none 0 0] 24)
  have px_2 := Blk.new w1 24 #[.int .i64 0, .int .i64 0, .slice none 0 0]
  clear pf_1 pg_1
  have f_pf0_1 := pf_2.at_ (i := 0) (u := .int .i64 K) rfl
  have f_pf1_1 := pf_2.at_ (i := 1) (u := .int .i64 L) rfl
  have f_pf2_1 := pf_2.at_ (i := 2) (u := .slice A n c) rfl
  have f_pg0_1 := pg_2.at_ (i := 0) (u := .int .i64 K2) rfl
  have f_pg1_1 := pg_2.at_ (i := 1) (u := .int .i64 L2) rfl
  have f_pg2_1 := pg_2.at_ (i := 2) (u := .slice A2 n2 c2) rfl
  have f_px0_1 := px_2.at_ (i := 0) (u := .int .i64 0) rfl
  have f_px1_1 := px_2.at_ (i := 1) (u := .int .i64 0) rfl
  have f_px2_1 := px_2.at_ (i := 2) (u := .slice none 0 0) rfl
  go_wp2_with fail
  refine (most_big (A := A4) (c := c4) hbig).mono ?_
  rintro e w2 ⟨rfl, b_3⟩
  clear f_pf0_1 f_pf1_1 f_pf2_1 f_pg0_1 f_pg1_1 f_pg2_1 f_px0_1 f_px1_1 f_px2_1
  have pf_3 := pf_2.below b_3 pf_2.lt
  have pg_3 := pg_2.below b_3 pg_2.lt
  have px_3 := px_2.below b_3 px_2.lt
  have k_3 := below_on k_2 b_3
  clear pf_2 pg_2 px_2
  have pf_4 := pf_3.alloc (.cells #[.int .i64 5, .int .i64 4, .int .i64 5] 3)
  have pg_4 := pg_3.alloc (.cells #[.int .i64 5, .int .i64 4, .int .i64 5] 3)
  have px_4 := px_3.alloc (.cells #[.int .i64 5, .int .i64 4, .int .i64 5] 3)
  have k_4 := below_alloc k_3 (.cells #[.int .i64 5, .int .i64 4, .int .i64 5] 3)
  have pl_4 := Blk.new w2 3 #[.int .i64 5, .int .i64 4, .int .i64 5]
  clear pf_3 pg_3 px_3
  have s545 : Si _ (some ⟨w2.heap.size, 0, none⟩) 3 3 [5, 4, 5] := Sl.blk 1 3 pl_4 rfl (by simp [maxLen])
  have f_pf0_2 := pf_4.at_ (i := 0) (u := .int .i64 K) rfl
  have f_pf1_2 := pf_4.at_ (i := 1) (u := .int .i64 L) rfl
  have f_pf2_2 := pf_4.at_ (i := 2) (u := .slice A n c) rfl
  have f_pg0_2 := pg_4.at_ (i := 0) (u := .int .i64 K2) rfl
  have f_pg1_2 := pg_4.at_ (i := 1) (u := .int .i64 L2) rfl
  have f_pg2_2 := pg_4.at_ (i := 2) (u := .slice A2 n2 c2) rfl
  have f_px0_2 := px_4.at_ (i := 0) (u := .int .i64 0) rfl
  have f_px1_2 := px_4.at_ (i := 1) (u := .int .i64 0) rfl
  have f_px2_2 := px_4.at_ (i := 2) (u := .slice none 0 0) rfl
  go_wp2_with fail
  refine (most_any s545 (by omega)).mono ?_
  rintro e w3 ⟨rfl, b_5⟩
  clear f_pf0_2 f_pf1_2 f_pf2_2 f_pg0_2 f_pg1_2 f_pg2_2 f_px0_2 f_px1_2 f_px2_2
  have pf_5 := pf_4.below b_5 pf_4.lt
  have pg_5 := pg_4.below b_5 pg_4.lt
  have px_5 := px_4.below b_5 px_4.lt
  have k_5 := below_on k_4 b_5
  clear pf_4 pg_4 px_4
  rw [show mostA [5, 4, 5] = (5, true) from by decide]
  dsimp only
  have f_pf0_3 := pf_5.at_ (i := 0) (u := .int .i64 K) rfl
  have f_pf1_3 := pf_5.at_ (i := 1) (u := .int .i64 L) rfl
  have f_pf2_3 := pf_5.at_ (i := 2) (u := .slice A n c) rfl
  have f_pg0_3 := pg_5.at_ (i := 0) (u := .int .i64 K2) rfl
  have f_pg1_3 := pg_5.at_ (i := 1) (u := .int .i64 L2) rfl
  have f_pg2_3 := pg_5.at_ (i := 2) (u := .slice A2 n2 c2) rfl
  have f_px0_3 := px_5.at_ (i := 0) (u := .int .i64 0) rfl
  have f_px1_3 := px_5.at_ (i := 1) (u := .int .i64 0) rfl
  have f_px2_3 := px_5.at_ (i := 2) (u := .slice none 0 0) rfl
  go_wp2_with fail
  refine (rfew_is (h.on k_5) HE.out).mono ?_
  rintro e w4 ⟨rfl, b_6⟩
  clear f_pf0_3 f_pf1_3 f_pf2_3 f_pg0_3 f_pg1_3 f_pg2_3 f_px0_3 f_px1_3 f_px2_3
  have pf_6 := pf_5.below b_6 pf_5.lt
  have pg_6 := pg_5.below b_6 pg_5.lt
  have px_6 := px_5.below b_6 px_5.lt
  have k_6 := below_on k_5 b_6
  clear pf_5 pg_5 px_5
  have f_pf0_4 := pf_6.at_ (i := 0) (u := .int .i64 K) rfl
  have f_pf1_4 := pf_6.at_ (i := 1) (u := .int .i64 L) rfl
  have f_pf2_4 := pf_6.at_ (i := 2) (u := .slice A n c) rfl
  have f_pg0_4 := pg_6.at_ (i := 0) (u := .int .i64 K2) rfl
  have f_pg1_4 := pg_6.at_ (i := 1) (u := .int .i64 L2) rfl
  have f_pg2_4 := pg_6.at_ (i := 2) (u := .slice A2 n2 c2) rfl
  have f_px0_4 := px_6.at_ (i := 0) (u := .int .i64 0) rfl
  have f_px1_4 := px_6.at_ (i := 1) (u := .int .i64 0) rfl
  have f_px2_4 := px_6.at_ (i := 2) (u := .slice none 0 0) rfl
  go_wp2_with fail
  refine same_none.mono ?_
  rintro e wz ⟨rfl, bz⟩
  go_wp2_with fail
  go_ret
  exact ⟨rfl, below_on k_6 bz⟩
set_option maxRecDepth 100000 in
set_option maxHeartbeats 12800000 in
theorem law_join_bad1 (h : Sp w A n c l) (h2 : Sp w A2 n2 c2 m) (h3 : Si w A4 n4 c4 ls) (hsm : n4 ≤ 40) {E : Int} (hE : fwErr K L n l = E) (h0 : E ≠ 0) :
    Calls Tryz.prog 3 #[.agg #[.int .i64 K, .int .i64 L, .slice A n c], .agg #[.int .i64 K2, .int .i64 L2, .slice A2 n2 c2], .slice A4 n4 c4] w fun e w' => e = .returned (.bool true) ∧ Below w.heap.size w w' := by
  have t1 : (E != 0) = true := by simpa using h0
  have t2 : (E == 0) = false := by simpa using h0
  have t3 : (E == E) = true := by simp
  have HN := hide h0
  have HE := hide hE
  clear hE h0
  have tb : ¬ (40 : Int) < (n4 : Int) := by omega
  have HMM := hide (most_eq ls)
  obtain ⟨mv, mb, hmv⟩ : ∃ mv mb, mostB ls = (mv, mb) := ⟨_, _, rfl⟩
  have HMV := hide hmv
  clear hmv
  have tv : (mv != mv) = false := by simp
  have tm : (mb != mb) = false := by simp
  have pf_0 := (Blk.new w 24 #[.int .i64 K, .int .i64 L, .slice A n c]).alloc (.cells #[.int .i64 K2, .int .i64 L2, .slice A2 n2 c2] 24)
  have pg_0 := Blk.new (w.alloc (.cells #[.int .i64 K, .int .i64 L, .slice A n c] 24)) 24 #[.int .i64 K2, .int .i64 L2, .slice A2 n2 c2]
  rw [World.size_alloc] at pg_0
  have k_0 : Below w.heap.size w ((w.alloc (.cells #[.int .i64 K, .int .i64 L, .slice A n c] 24)).alloc (.cells #[.int .i64 K2, .int .i64 L2, .slice A2 n2 c2] 24)) := by repeat' (first | assumption | with_reducible exact Below.refl _ _ | with_reducible apply Below.drew | with_reducible apply below_drewN | with_reducible apply below_alloc | with_reducible refine below_set ?_ ?_ _ | (simp only [World.size_alloc, World.heap_drewN]; omega) | (simp; omega))
  go_enter Tryz.func3, Tryz.ntmps3
  have f_pf0_0 := pf_0.at_ (i := 0) (u := .int .i64 K) rfl
  have f_pf1_0 := pf_0.at_ (i := 1) (u := .int .i64 L) rfl
  have f_pf2_0 := pf_0.at_ (i := 2) (u := .slice A n c) rfl
  have f_pg0_0 := pg_0.at_ (i := 0) (u := .int .i64 K2) rfl
  have f_pg1_0 := pg_0.at_ (i := 1) (u := .int .i64 L2) rfl
  have f_pg2_0 := pg_0.at_ (i := 2) (u := .slice A2 n2 c2) rfl
  go_wp2_with fail
  refine (fjoin_bad1 (h.on k_0) HE.out HN.out).mono ?_
  rintro e w1 ⟨rfl, b_1⟩
  clear f_pf0_0 f_pf1_0 f_pf2_0 f_pg0_0 f_pg1_0 f_pg2_0
  have pf_1 := pf_0.below b_1 pf_0.lt
  have pg_1 := pg_0.below b_1 pg_0.lt
  have k_1 := below_on k_0 b_1
  clear pf_0 pg_0
  have pf_2 := pf_1.alloc (.cells #[.int .i64 0, .int .i64 0, .slice none 0 0] 24)
  have pg_2 := pg_1.alloc (.cells #[.int .i64 0, .int .i64 0, .slice none 0 0] 24)
  have k_2 := below_alloc k_1 (.cells #[.int .i64 0, .int .i64 0, .slice none 0 0] 24)
  have px_2 := Blk.new w1 24 #[.int .i64 0, .int .i64 0, .slice none 0 0]
  clear pf_1 pg_1
  have f_pf0_1 := pf_2.at_ (i := 0) (u := .int .i64 K) rfl
  have f_pf1_1 := pf_2.at_ (i := 1) (u := .int .i64 L) rfl
  have f_pf2_1 := pf_2.at_ (i := 2) (u := .slice A n c) rfl
  have f_pg0_1 := pg_2.at_ (i := 0) (u := .int .i64 K2) rfl
  have f_pg1_1 := pg_2.at_ (i := 1) (u := .int .i64 L2) rfl
  have f_pg2_1 := pg_2.at_ (i := 2) (u := .slice A2 n2 c2) rfl
  have f_px0_1 := px_2.at_ (i := 0) (u := .int .i64 0) rfl
  have f_px1_1 := px_2.at_ (i := 1) (u := .int .i64 0) rfl
  have f_px2_1 := px_2.at_ (i := 2) (u := .slice none 0 0) rfl
  go_wp2_with fail
  refine (most_any (h3.on k_2) hsm).mono ?_
  rintro e w2 ⟨rfl, b_3⟩
  clear f_pf0_1 f_pf1_1 f_pf2_1 f_pg0_1 f_pg1_1 f_pg2_1 f_px0_1 f_px1_1 f_px2_1
  have pf_3 := pf_2.below b_3 pf_2.lt
  have pg_3 := pg_2.below b_3 pg_2.lt
  have px_3 := px_2.below b_3 px_2.lt
  have k_3 := below_on k_2 b_3
  clear pf_2 pg_2 px_2
  rw [HMM.out, HMV.out]
  dsimp only
  have pf_4 := pf_3.alloc (.cells #[.int .i64 5, .int .i64 4, .int .i64 5] 3)
  have pg_4 := pg_3.alloc (.cells #[.int .i64 5, .int .i64 4, .int .i64 5] 3)
  have px_4 := px_3.alloc (.cells #[.int .i64 5, .int .i64 4, .int .i64 5] 3)
  have k_4 := below_alloc k_3 (.cells #[.int .i64 5, .int .i64 4, .int .i64 5] 3)
  have pl_4 := Blk.new w2 3 #[.int .i64 5, .int .i64 4, .int .i64 5]
  clear pf_3 pg_3 px_3
  have s545 : Si _ (some ⟨w2.heap.size, 0, none⟩) 3 3 [5, 4, 5] := Sl.blk 1 3 pl_4 rfl (by simp [maxLen])
  have f_pf0_2 := pf_4.at_ (i := 0) (u := .int .i64 K) rfl
  have f_pf1_2 := pf_4.at_ (i := 1) (u := .int .i64 L) rfl
  have f_pf2_2 := pf_4.at_ (i := 2) (u := .slice A n c) rfl
  have f_pg0_2 := pg_4.at_ (i := 0) (u := .int .i64 K2) rfl
  have f_pg1_2 := pg_4.at_ (i := 1) (u := .int .i64 L2) rfl
  have f_pg2_2 := pg_4.at_ (i := 2) (u := .slice A2 n2 c2) rfl
  have f_px0_2 := px_4.at_ (i := 0) (u := .int .i64 0) rfl
  have f_px1_2 := px_4.at_ (i := 1) (u := .int .i64 0) rfl
  have f_px2_2 := px_4.at_ (i := 2) (u := .slice none 0 0) rfl
  go_wp2_with fail
  refine (most_any s545 (by omega)).mono ?_
  rintro e w3 ⟨rfl, b_5⟩
  clear f_pf0_2 f_pf1_2 f_pf2_2 f_pg0_2 f_pg1_2 f_pg2_2 f_px0_2 f_px1_2 f_px2_2
  have pf_5 := pf_4.below b_5 pf_4.lt
  have pg_5 := pg_4.below b_5 pg_4.lt
  have px_5 := px_4.below b_5 px_4.lt
  have k_5 := below_on k_4 b_5
  clear pf_4 pg_4 px_4
  rw [show mostA [5, 4, 5] = (5, true) from by decide]
  dsimp only
  have f_pf0_3 := pf_5.at_ (i := 0) (u := .int .i64 K) rfl
  have f_pf1_3 := pf_5.at_ (i := 1) (u := .int .i64 L) rfl
  have f_pf2_3 := pf_5.at_ (i := 2) (u := .slice A n c) rfl
  have f_pg0_3 := pg_5.at_ (i := 0) (u := .int .i64 K2) rfl
  have f_pg1_3 := pg_5.at_ (i := 1) (u := .int .i64 L2) rfl
  have f_pg2_3 := pg_5.at_ (i := 2) (u := .slice A2 n2 c2) rfl
  have f_px0_3 := px_5.at_ (i := 0) (u := .int .i64 0) rfl
  have f_px1_3 := px_5.at_ (i := 1) (u := .int .i64 0) rfl
  have f_px2_3 := px_5.at_ (i := 2) (u := .slice none 0 0) rfl
  go_wp2_with fail
  refine (rmost_any (h3.on k_5) hsm).mono ?_
  rintro e w4 ⟨rfl, b_6⟩
  clear f_pf0_3 f_pf1_3 f_pf2_3 f_pg0_3 f_pg1_3 f_pg2_3 f_px0_3 f_px1_3 f_px2_3
  have pf_6 := pf_5.below b_6 pf_5.lt
  have pg_6 := pg_5.below b_6 pg_5.lt
  have px_6 := px_5.below b_6 px_5.lt
  have k_6 := below_on k_5 b_6
  clear pf_5 pg_5 px_5
  rw [HMV.out]
  dsimp only
  have f_pf0_4 := pf_6.at_ (i := 0) (u := .int .i64 K) rfl
  have f_pf1_4 := pf_6.at_ (i := 1) (u := .int .i64 L) rfl
  have f_pf2_4 := pf_6.at_ (i := 2) (u := .slice A n c) rfl
  have f_pg0_4 := pg_6.at_ (i := 0) (u := .int .i64 K2) rfl
  have f_pg1_4 := pg_6.at_ (i := 1) (u := .int .i64 L2) rfl
  have f_pg2_4 := pg_6.at_ (i := 2) (u := .slice A2 n2 c2) rfl
  have f_px0_4 := px_6.at_ (i := 0) (u := .int .i64 0) rfl
  have f_px1_4 := px_6.at_ (i := 1) (u := .int .i64 0) rfl
  have f_px2_4 := px_6.at_ (i := 2) (u := .slice none 0 0) rfl
  go_wp2_with fail
  refine (rfew_is (h.on k_6) HE.out).mono ?_
  rintro e w5 ⟨rfl, b_7⟩
  clear f_pf0_4 f_pf1_4 f_pf2_4 f_pg0_4 f_pg1_4 f_pg2_4 f_px0_4 f_px1_4 f_px2_4
  have pf_7 := pf_6.below b_7 pf_6.lt
  have pg_7 := pg_6.below b_7 pg_6.lt
  have px_7 := px_6.below b_7 px_6.lt
  have k_7 := below_on k_6 b_7
  clear pf_6 pg_6 px_6
  have f_pf0_5 := pf_7.at_ (i := 0) (u := .int .i64 K) rfl
  have f_pf1_5 := pf_7.at_ (i := 1) (u := .int .i64 L) rfl
  have f_pf2_5 := pf_7.at_ (i := 2) (u := .slice A n c) rfl
  have f_pg0_5 := pg_7.at_ (i := 0) (u := .int .i64 K2) rfl
  have f_pg1_5 := pg_7.at_ (i := 1) (u := .int .i64 L2) rfl
  have f_pg2_5 := pg_7.at_ (i := 2) (u := .slice A2 n2 c2) rfl
  have f_px0_5 := px_7.at_ (i := 0) (u := .int .i64 0) rfl
  have f_px1_5 := px_7.at_ (i := 1) (u := .int .i64 0) rfl
  have f_px2_5 := px_7.at_ (i := 2) (u := .slice none 0 0) rfl
  go_wp2_with fail
  refine same_none.mono ?_
  rintro e wz ⟨rfl, bz⟩
  go_wp2_with fail
  go_ret
  exact ⟨rfl, below_on k_7 bz⟩
set_option maxRecDepth 100000 in
set_option maxHeartbeats 12800000 in
theorem law_join_bad2_b (h : Sp w A n c l) (h2 : Sp w A2 n2 c2 m) (h3 : Si w A4 n4 c4 ls) (hbig : 40 < n4) (hE : fwErr K L n l = 0) {E : Int} (hE2 : fwErr K2 L2 n2 m = E) (h0 : E ≠ 0) :
    Calls Tryz.prog 3 #[.agg #[.int .i64 K, .int .i64 L, .slice A n c], .agg #[.int .i64 K2, .int .i64 L2, .slice A2 n2 c2], .slice A4 n4 c4] w fun e w' => e = .returned (.bool true) ∧ Below w.heap.size w w' := by
  have t1 : (E != 0) = true := by simpa using h0
  have t2 : (E == 0) = false := by simpa using h0
  have t3 : (E == E) = true := by simp
  have HN := hide h0
  have HE := hide hE
  have HE2 := hide hE2
  clear hE hE2 h0
  have tb : (40 : Int) < (n4 : Int) := by omega
  have pf_0 := (Blk.new w 24 #[.int .i64 K, .int .i64 L, .slice A n c]).alloc (.cells #[.int .i64 K2, .int .i64 L2, .slice A2 n2 c2] 24)
  have pg_0 := Blk.new (w.alloc (.cells #[.int .i64 K, .int .i64 L, .slice A n c] 24)) 24 #[.int .i64 K2, .int .i64 L2, .slice A2 n2 c2]
  rw [World.size_alloc] at pg_0
  have k_0 : Below w.heap.size w ((w.alloc (.cells #[.int .i64 K, .int .i64 L, .slice A n c] 24)).alloc (.cells #[.int .i64 K2, .int .i64 L2, .slice A2 n2 c2] 24)) := by repeat' (first | assumption | with_reducible exact Below.refl _ _ | with_reducible apply Below.drew | with_reducible apply below_drewN | with_reducible apply below_alloc | with_reducible refine below_set ?_ ?_ _ | (simp only [World.size_alloc, World.heap_drewN]; omega) | (simp; omega))
  go_enter Tryz.func3, Tryz.ntmps3
  have f_pf0_0 := pf_0.at_ (i := 0) (u := .int .i64 K) rfl
  have f_pf1_0 := pf_0.at_ (i := 1) (u := .int .i64 L) rfl
  have f_pf2_0 := pf_0.at_ (i := 2) (u := .slice A n c) rfl
  have f_pg0_0 := pg_0.at_ (i := 0) (u := .int .i64 K2) rfl
  have f_pg1_0 := pg_0.at_ (i := 1) (u := .int .i64 L2) rfl
  have f_pg2_0 := pg_0.at_ (i := 2) (u := .slice A2 n2 c2) rfl
  go_wp2_with fail
  refine (fjoin_bad2 (h.on k_0) HE.out (h2.on k_0) HE2.out HN.out).mono ?_
  rintro e w1 ⟨rfl, b_1⟩
  clear f_pf0_0 f_pf1_0 f_pf2_0 f_pg0_0 f_pg1_0 f_pg2_0
  have pf_1 := pf_0.below b_1 pf_0.lt
  have pg_1 := pg_0.below b_1 pg_0.lt
  have k_1 := below_on k_0 b_1
  clear pf_0 pg_0
  have pf_2 := pf_1.alloc (.cells #[.int .i64 0, .int .i64 0, .slice none 0 0] 24)
  have pg_2 := pg_1.alloc (.cells #[.int .i64 0, .int .i64 0, .slice none 0 0] 24)
  have k_2 := below_alloc k_1 (.cells #[.int .i64 0, .int .i64 0, .slice none 0 0] 24)
  have px_2 := Blk.new w1 24 #[.int .i64 0, .int .i64 0, .slice none 0 0]
  clear pf_1 pg_1
  have f_pf0_1 := pf_2.at_ (i := 0) (u := .int .i64 K) rfl
  have f_pf1_1 := pf_2.at_ (i := 1) (u := .int .i64 L) rfl
  have f_pf2_1 := pf_2.at_ (i := 2) (u := .slice A n c) rfl
  have f_pg0_1 := pg_2.at_ (i := 0) (u := .int .i64 K2) rfl
  have f_pg1_1 := pg_2.at_ (i := 1) (u := .int .i64 L2) rfl
  have f_pg2_1 := pg_2.at_ (i := 2) (u := .slice A2 n2 c2) rfl
  have f_px0_1 := px_2.at_ (i := 0) (u := .int .i64 0) rfl
  have f_px1_1 := px_2.at_ (i := 1) (u := .int .i64 0) rfl
  have f_px2_1 := px_2.at_ (i := 2) (u := .slice none 0 0) rfl
  go_wp2_with fail
  refine (most_big (A := A4) (c := c4) hbig).mono ?_
  rintro e w2 ⟨rfl, b_3⟩
  clear f_pf0_1 f_pf1_1 f_pf2_1 f_pg0_1 f_pg1_1 f_pg2_1 f_px0_1 f_px1_1 f_px2_1
  have pf_3 := pf_2.below b_3 pf_2.lt
  have pg_3 := pg_2.below b_3 pg_2.lt
  have px_3 := px_2.below b_3 px_2.lt
  have k_3 := below_on k_2 b_3
  clear pf_2 pg_2 px_2
  have pf_4 := pf_3.alloc (.cells #[.int .i64 5, .int .i64 4, .int .i64 5] 3)
  have pg_4 := pg_3.alloc (.cells #[.int .i64 5, .int .i64 4, .int .i64 5] 3)
  have px_4 := px_3.alloc (.cells #[.int .i64 5, .int .i64 4, .int .i64 5] 3)
  have k_4 := below_alloc k_3 (.cells #[.int .i64 5, .int .i64 4, .int .i64 5] 3)
  have pl_4 := Blk.new w2 3 #[.int .i64 5, .int .i64 4, .int .i64 5]
  clear pf_3 pg_3 px_3
  have s545 : Si _ (some ⟨w2.heap.size, 0, none⟩) 3 3 [5, 4, 5] := Sl.blk 1 3 pl_4 rfl (by simp [maxLen])
  have f_pf0_2 := pf_4.at_ (i := 0) (u := .int .i64 K) rfl
  have f_pf1_2 := pf_4.at_ (i := 1) (u := .int .i64 L) rfl
  have f_pf2_2 := pf_4.at_ (i := 2) (u := .slice A n c) rfl
  have f_pg0_2 := pg_4.at_ (i := 0) (u := .int .i64 K2) rfl
  have f_pg1_2 := pg_4.at_ (i := 1) (u := .int .i64 L2) rfl
  have f_pg2_2 := pg_4.at_ (i := 2) (u := .slice A2 n2 c2) rfl
  have f_px0_2 := px_4.at_ (i := 0) (u := .int .i64 0) rfl
  have f_px1_2 := px_4.at_ (i := 1) (u := .int .i64 0) rfl
  have f_px2_2 := px_4.at_ (i := 2) (u := .slice none 0 0) rfl
  go_wp2_with fail
  refine (most_any s545 (by omega)).mono ?_
  rintro e w3 ⟨rfl, b_5⟩
  clear f_pf0_2 f_pf1_2 f_pf2_2 f_pg0_2 f_pg1_2 f_pg2_2 f_px0_2 f_px1_2 f_px2_2
  have pf_5 := pf_4.below b_5 pf_4.lt
  have pg_5 := pg_4.below b_5 pg_4.lt
  have px_5 := px_4.below b_5 px_4.lt
  have k_5 := below_on k_4 b_5
  clear pf_4 pg_4 px_4
  rw [show mostA [5, 4, 5] = (5, true) from by decide]
  dsimp only
  have f_pf0_3 := pf_5.at_ (i := 0) (u := .int .i64 K) rfl
  have f_pf1_3 := pf_5.at_ (i := 1) (u := .int .i64 L) rfl
  have f_pf2_3 := pf_5.at_ (i := 2) (u := .slice A n c) rfl
  have f_pg0_3 := pg_5.at_ (i := 0) (u := .int .i64 K2) rfl
  have f_pg1_3 := pg_5.at_ (i := 1) (u := .int .i64 L2) rfl
  have f_pg2_3 := pg_5.at_ (i := 2) (u := .slice A2 n2 c2) rfl
  have f_px0_3 := px_5.at_ (i := 0) (u := .int .i64 0) rfl
  have f_px1_3 := px_5.at_ (i := 1) (u := .int .i64 0) rfl
  have f_px2_3 := px_5.at_ (i := 2) (u := .slice none 0 0) rfl
  go_wp2_with fail
  refine (rfew_is (h.on k_5) HE.out).mono ?_
  rintro e w4 ⟨rfl, b_6⟩
  clear f_pf0_3 f_pf1_3 f_pf2_3 f_pg0_3 f_pg1_3 f_pg2_3 f_px0_3 f_px1_3 f_px2_3
  have pf_6 := pf_5.below b_6 pf_5.lt
  have pg_6 := pg_5.below b_6 pg_5.lt
  have px_6 := px_5.below b_6 px_5.lt
  have k_6 := below_on k_5 b_6
  clear pf_5 pg_5 px_5
  have f_pf0_4 := pf_6.at_ (i := 0) (u := .int .i64 K) rfl
  have f_pf1_4 := pf_6.at_ (i := 1) (u := .int .i64 L) rfl
  have f_pf2_4 := pf_6.at_ (i := 2) (u := .slice A n c) rfl
  have f_pg0_4 := pg_6.at_ (i := 0) (u := .int .i64 K2) rfl
  have f_pg1_4 := pg_6.at_ (i := 1) (u := .int .i64 L2) rfl
  have f_pg2_4 := pg_6.at_ (i := 2) (u := .slice A2 n2 c2) rfl
  have f_px0_4 := px_6.at_ (i := 0) (u := .int .i64 0) rfl
  have f_px1_4 := px_6.at_ (i := 1) (u := .int .i64 0) rfl
  have f_px2_4 := px_6.at_ (i := 2) (u := .slice none 0 0) rfl
  go_wp2_with fail
  refine (rfew_is (h2.on k_6) HE2.out).mono ?_
  rintro e w5 ⟨rfl, b_7⟩
  clear f_pf0_4 f_pf1_4 f_pf2_4 f_pg0_4 f_pg1_4 f_pg2_4 f_px0_4 f_px1_4 f_px2_4
  have pf_7 := pf_6.below b_7 pf_6.lt
  have pg_7 := pg_6.below b_7 pg_6.lt
  have px_7 := px_6.below b_7 px_6.lt
  have k_7 := below_on k_6 b_7
  clear pf_6 pg_6 px_6
  have f_pf0_5 := pf_7.at_ (i := 0) (u := .int .i64 K) rfl
  have f_pf1_5 := pf_7.at_ (i := 1) (u := .int .i64 L) rfl
  have f_pf2_5 := pf_7.at_ (i := 2) (u := .slice A n c) rfl
  have f_pg0_5 := pg_7.at_ (i := 0) (u := .int .i64 K2) rfl
  have f_pg1_5 := pg_7.at_ (i := 1) (u := .int .i64 L2) rfl
  have f_pg2_5 := pg_7.at_ (i := 2) (u := .slice A2 n2 c2) rfl
  have f_px0_5 := px_7.at_ (i := 0) (u := .int .i64 0) rfl
  have f_px1_5 := px_7.at_ (i := 1) (u := .int .i64 0) rfl
  have f_px2_5 := px_7.at_ (i := 2) (u := .slice none 0 0) rfl
  go_wp2_with fail
  refine same_none.mono ?_
  rintro e wz ⟨rfl, bz⟩
  go_wp2_with fail
  go_ret
  exact ⟨rfl, below_on k_7 bz⟩
set_option maxRecDepth 100000 in
set_option maxHeartbeats 12800000 in
theorem law_join_bad2 (h : Sp w A n c l) (h2 : Sp w A2 n2 c2 m) (h3 : Si w A4 n4 c4 ls) (hsm : n4 ≤ 40) (hE : fwErr K L n l = 0) {E : Int} (hE2 : fwErr K2 L2 n2 m = E) (h0 : E ≠ 0) :
    Calls Tryz.prog 3 #[.agg #[.int .i64 K, .int .i64 L, .slice A n c], .agg #[.int .i64 K2, .int .i64 L2, .slice A2 n2 c2], .slice A4 n4 c4] w fun e w' => e = .returned (.bool true) ∧ Below w.heap.size w w' := by
  have t1 : (E != 0) = true := by simpa using h0
  have t2 : (E == 0) = false := by simpa using h0
  have t3 : (E == E) = true := by simp
  have HN := hide h0
  have HE := hide hE
  have HE2 := hide hE2
  clear hE hE2 h0
  have tb : ¬ (40 : Int) < (n4 : Int) := by omega
  have HMM := hide (most_eq ls)
  obtain ⟨mv, mb, hmv⟩ : ∃ mv mb, mostB ls = (mv, mb) := ⟨_, _, rfl⟩
  have HMV := hide hmv
  clear hmv
  have tv : (mv != mv) = false := by simp
  have tm : (mb != mb) = false := by simp
  have pf_0 := (Blk.new w 24 #[.int .i64 K, .int .i64 L, .slice A n c]).alloc (.cells #[.int .i64 K2, .int .i64 L2, .slice A2 n2 c2] 24)
  have pg_0 := Blk.new (w.alloc (.cells #[.int .i64 K, .int .i64 L, .slice A n c] 24)) 24 #[.int .i64 K2, .int .i64 L2, .slice A2 n2 c2]
  rw [World.size_alloc] at pg_0
  have k_0 : Below w.heap.size w ((w.alloc (.cells #[.int .i64 K, .int .i64 L, .slice A n c] 24)).alloc (.cells #[.int .i64 K2, .int .i64 L2, .slice A2 n2 c2] 24)) := by repeat' (first | assumption | with_reducible exact Below.refl _ _ | with_reducible apply Below.drew | with_reducible apply below_drewN | with_reducible apply below_alloc | with_reducible refine below_set ?_ ?_ _ | (simp only [World.size_alloc, World.heap_drewN]; omega) | (simp; omega))
  go_enter Tryz.func3, Tryz.ntmps3
  have f_pf0_0 := pf_0.at_ (i := 0) (u := .int .i64 K) rfl
  have f_pf1_0 := pf_0.at_ (i := 1) (u := .int .i64 L) rfl
  have f_pf2_0 := pf_0.at_ (i := 2) (u := .slice A n c) rfl
  have f_pg0_0 := pg_0.at_ (i := 0) (u := .int .i64 K2) rfl
  have f_pg1_0 := pg_0.at_ (i := 1) (u := .int .i64 L2) rfl
  have f_pg2_0 := pg_0.at_ (i := 2) (u := .slice A2 n2 c2) rfl
  go_wp2_with fail
  refine (fjoin_bad2 (h.on k_0) HE.out (h2.on k_0) HE2.out HN.out).mono ?_
  rintro e w1 ⟨rfl, b_1⟩
  clear f_pf0_0 f_pf1_0 f_pf2_0 f_pg0_0 f_pg1_0 f_pg2_0
  have pf_1 := pf_0.below b_1 pf_0.lt
  have pg_1 := pg_0.below b_1 pg_0.lt
  have k_1 := below_on k_0 b_1
  clear pf_0 pg_0
  have pf_2 := pf_1.alloc (.cells #[.int .i64 0, .int .i64 0, .slice none 0 0] 24)
  have pg_2 := pg_1.alloc (.cells #[.int .i64 0, .int .i64 0, .slice none 0 0] 24)
  have k_2 := below_alloc k_1 (.cells #[.int .i64 0, .int .i64 0, .slice none 0 0] 24)
  have px_2 := Blk.new w1 24 #[.int .i64 0, .int .i64 0, .slice none 0 0]
  clear pf_1 pg_1
  have f_pf0_1 := pf_2.at_ (i := 0) (u := .int .i64 K) rfl
  have f_pf1_1 := pf_2.at_ (i := 1) (u := .int .i64 L) rfl
  have f_pf2_1 := pf_2.at_ (i := 2) (u := .slice A n c) rfl
  have f_pg0_1 := pg_2.at_ (i := 0) (u := .int .i64 K2) rfl
  have f_pg1_1 := pg_2.at_ (i := 1) (u := .int .i64 L2) rfl
  have f_pg2_1 := pg_2.at_ (i := 2) (u := .slice A2 n2 c2) rfl
  have f_px0_1 := px_2.at_ (i := 0) (u := .int .i64 0) rfl
  have f_px1_1 := px_2.at_ (i := 1) (u := .int .i64 0) rfl
  have f_px2_1 := px_2.at_ (i := 2) (u := .slice none 0 0) rfl
  go_wp2_with fail
  refine (most_any (h3.on k_2) hsm).mono ?_
  rintro e w2 ⟨rfl, b_3⟩
  clear f_pf0_1 f_pf1_1 f_pf2_1 f_pg0_1 f_pg1_1 f_pg2_1 f_px0_1 f_px1_1 f_px2_1
  have pf_3 := pf_2.below b_3 pf_2.lt
  have pg_3 := pg_2.below b_3 pg_2.lt
  have px_3 := px_2.below b_3 px_2.lt
  have k_3 := below_on k_2 b_3
  clear pf_2 pg_2 px_2
  rw [HMM.out, HMV.out]
  dsimp only
  have pf_4 := pf_3.alloc (.cells #[.int .i64 5, .int .i64 4, .int .i64 5] 3)
  have pg_4 := pg_3.alloc (.cells #[.int .i64 5, .int .i64 4, .int .i64 5] 3)
  have px_4 := px_3.alloc (.cells #[.int .i64 5, .int .i64 4, .int .i64 5] 3)
  have k_4 := below_alloc k_3 (.cells #[.int .i64 5, .int .i64 4, .int .i64 5] 3)
  have pl_4 := Blk.new w2 3 #[.int .i64 5, .int .i64 4, .int .i64 5]
  clear pf_3 pg_3 px_3
  have s545 : Si _ (some ⟨w2.heap.size, 0, none⟩) 3 3 [5, 4, 5] := Sl.blk 1 3 pl_4 rfl (by simp [maxLen])
  have f_pf0_2 := pf_4.at_ (i := 0) (u := .int .i64 K) rfl
  have f_pf1_2 := pf_4.at_ (i := 1) (u := .int .i64 L) rfl
  have f_pf2_2 := pf_4.at_ (i := 2) (u := .slice A n c) rfl
  have f_pg0_2 := pg_4.at_ (i := 0) (u := .int .i64 K2) rfl
  have f_pg1_2 := pg_4.at_ (i := 1) (u := .int .i64 L2) rfl
  have f_pg2_2 := pg_4.at_ (i := 2) (u := .slice A2 n2 c2) rfl
  have f_px0_2 := px_4.at_ (i := 0) (u := .int .i64 0) rfl
  have f_px1_2 := px_4.at_ (i := 1) (u := .int .i64 0) rfl
  have f_px2_2 := px_4.at_ (i := 2) (u := .slice none 0 0) rfl
  go_wp2_with fail
  refine (most_any s545 (by omega)).mono ?_
  rintro e w3 ⟨rfl, b_5⟩
  clear f_pf0_2 f_pf1_2 f_pf2_2 f_pg0_2 f_pg1_2 f_pg2_2 f_px0_2 f_px1_2 f_px2_2
  have pf_5 := pf_4.below b_5 pf_4.lt
  have pg_5 := pg_4.below b_5 pg_4.lt
  have px_5 := px_4.below b_5 px_4.lt
  have k_5 := below_on k_4 b_5
  clear pf_4 pg_4 px_4
  rw [show mostA [5, 4, 5] = (5, true) from by decide]
  dsimp only
  have f_pf0_3 := pf_5.at_ (i := 0) (u := .int .i64 K) rfl
  have f_pf1_3 := pf_5.at_ (i := 1) (u := .int .i64 L) rfl
  have f_pf2_3 := pf_5.at_ (i := 2) (u := .slice A n c) rfl
  have f_pg0_3 := pg_5.at_ (i := 0) (u := .int .i64 K2) rfl
  have f_pg1_3 := pg_5.at_ (i := 1) (u := .int .i64 L2) rfl
  have f_pg2_3 := pg_5.at_ (i := 2) (u := .slice A2 n2 c2) rfl
  have f_px0_3 := px_5.at_ (i := 0) (u := .int .i64 0) rfl
  have f_px1_3 := px_5.at_ (i := 1) (u := .int .i64 0) rfl
  have f_px2_3 := px_5.at_ (i := 2) (u := .slice none 0 0) rfl
  go_wp2_with fail
  refine (rmost_any (h3.on k_5) hsm).mono ?_
  rintro e w4 ⟨rfl, b_6⟩
  clear f_pf0_3 f_pf1_3 f_pf2_3 f_pg0_3 f_pg1_3 f_pg2_3 f_px0_3 f_px1_3 f_px2_3
  have pf_6 := pf_5.below b_6 pf_5.lt
  have pg_6 := pg_5.below b_6 pg_5.lt
  have px_6 := px_5.below b_6 px_5.lt
  have k_6 := below_on k_5 b_6
  clear pf_5 pg_5 px_5
  rw [HMV.out]
  dsimp only
  have f_pf0_4 := pf_6.at_ (i := 0) (u := .int .i64 K) rfl
  have f_pf1_4 := pf_6.at_ (i := 1) (u := .int .i64 L) rfl
  have f_pf2_4 := pf_6.at_ (i := 2) (u := .slice A n c) rfl
  have f_pg0_4 := pg_6.at_ (i := 0) (u := .int .i64 K2) rfl
  have f_pg1_4 := pg_6.at_ (i := 1) (u := .int .i64 L2) rfl
  have f_pg2_4 := pg_6.at_ (i := 2) (u := .slice A2 n2 c2) rfl
  have f_px0_4 := px_6.at_ (i := 0) (u := .int .i64 0) rfl
  have f_px1_4 := px_6.at_ (i := 1) (u := .int .i64 0) rfl
  have f_px2_4 := px_6.at_ (i := 2) (u := .slice none 0 0) rfl
  go_wp2_with fail
  refine (rfew_is (h.on k_6) HE.out).mono ?_
  rintro e w5 ⟨rfl, b_7⟩
  clear f_pf0_4 f_pf1_4 f_pf2_4 f_pg0_4 f_pg1_4 f_pg2_4 f_px0_4 f_px1_4 f_px2_4
  have pf_7 := pf_6.below b_7 pf_6.lt
  have pg_7 := pg_6.below b_7 pg_6.lt
  have px_7 := px_6.below b_7 px_6.lt
  have k_7 := below_on k_6 b_7
  clear pf_6 pg_6 px_6
  have f_pf0_5 := pf_7.at_ (i := 0) (u := .int .i64 K) rfl
  have f_pf1_5 := pf_7.at_ (i := 1) (u := .int .i64 L) rfl
  have f_pf2_5 := pf_7.at_ (i := 2) (u := .slice A n c) rfl
  have f_pg0_5 := pg_7.at_ (i := 0) (u := .int .i64 K2) rfl
  have f_pg1_5 := pg_7.at_ (i := 1) (u := .int .i64 L2) rfl
  have f_pg2_5 := pg_7.at_ (i := 2) (u := .slice A2 n2 c2) rfl
  have f_px0_5 := px_7.at_ (i := 0) (u := .int .i64 0) rfl
  have f_px1_5 := px_7.at_ (i := 1) (u := .int .i64 0) rfl
  have f_px2_5 := px_7.at_ (i := 2) (u := .slice none 0 0) rfl
  go_wp2_with fail
  refine (rfew_is (h2.on k_7) HE2.out).mono ?_
  rintro e w6 ⟨rfl, b_8⟩
  clear f_pf0_5 f_pf1_5 f_pf2_5 f_pg0_5 f_pg1_5 f_pg2_5 f_px0_5 f_px1_5 f_px2_5
  have pf_8 := pf_7.below b_8 pf_7.lt
  have pg_8 := pg_7.below b_8 pg_7.lt
  have px_8 := px_7.below b_8 px_7.lt
  have k_8 := below_on k_7 b_8
  clear pf_7 pg_7 px_7
  have f_pf0_6 := pf_8.at_ (i := 0) (u := .int .i64 K) rfl
  have f_pf1_6 := pf_8.at_ (i := 1) (u := .int .i64 L) rfl
  have f_pf2_6 := pf_8.at_ (i := 2) (u := .slice A n c) rfl
  have f_pg0_6 := pg_8.at_ (i := 0) (u := .int .i64 K2) rfl
  have f_pg1_6 := pg_8.at_ (i := 1) (u := .int .i64 L2) rfl
  have f_pg2_6 := pg_8.at_ (i := 2) (u := .slice A2 n2 c2) rfl
  have f_px0_6 := px_8.at_ (i := 0) (u := .int .i64 0) rfl
  have f_px1_6 := px_8.at_ (i := 1) (u := .int .i64 0) rfl
  have f_px2_6 := px_8.at_ (i := 2) (u := .slice none 0 0) rfl
  go_wp2_with fail
  refine same_none.mono ?_
  rintro e wz ⟨rfl, bz⟩
  go_wp2_with fail
  go_ret
  exact ⟨rfl, below_on k_8 bz⟩
set_option maxRecDepth 100000 in
set_option maxHeartbeats 12800000 in
theorem law_join_len_b (h : Sp w A n c l) (h2 : Sp w A2 n2 c2 m) (h3 : Si w A4 n4 c4 ls) (hbig : 40 < n4) (hE : fwErr K L n l = 0) (hE2 : fwErr K2 L2 n2 m = 0) (h0 : K ≠ K2) :
    Calls Tryz.prog 3 #[.agg #[.int .i64 K, .int .i64 L, .slice A n c], .agg #[.int .i64 K2, .int .i64 L2, .slice A2 n2 c2], .slice A4 n4 c4] w fun e w' => e = .returned (.bool true) ∧ Below w.heap.size w w' := by
  have t1 : (K != K2) = true := by simpa using h0
  have HN := hide h0
  have HE := hide hE
  have HE2 := hide hE2
  clear hE hE2 h0
  have tb : (40 : Int) < (n4 : Int) := by omega
  have pf_0 := (Blk.new w 24 #[.int .i64 K, .int .i64 L, .slice A n c]).alloc (.cells #[.int .i64 K2, .int .i64 L2, .slice A2 n2 c2] 24)
  have pg_0 := Blk.new (w.alloc (.cells #[.int .i64 K, .int .i64 L, .slice A n c] 24)) 24 #[.int .i64 K2, .int .i64 L2, .slice A2 n2 c2]
  rw [World.size_alloc] at pg_0
  have k_0 : Below w.heap.size w ((w.alloc (.cells #[.int .i64 K, .int .i64 L, .slice A n c] 24)).alloc (.cells #[.int .i64 K2, .int .i64 L2, .slice A2 n2 c2] 24)) := by repeat' (first | assumption | with_reducible exact Below.refl _ _ | with_reducible apply Below.drew | with_reducible apply below_drewN | with_reducible apply below_alloc | with_reducible refine below_set ?_ ?_ _ | (simp only [World.size_alloc, World.heap_drewN]; omega) | (simp; omega))
  go_enter Tryz.func3, Tryz.ntmps3
  have f_pf0_0 := pf_0.at_ (i := 0) (u := .int .i64 K) rfl
  have f_pf1_0 := pf_0.at_ (i := 1) (u := .int .i64 L) rfl
  have f_pf2_0 := pf_0.at_ (i := 2) (u := .slice A n c) rfl
  have f_pg0_0 := pg_0.at_ (i := 0) (u := .int .i64 K2) rfl
  have f_pg1_0 := pg_0.at_ (i := 1) (u := .int .i64 L2) rfl
  have f_pg2_0 := pg_0.at_ (i := 2) (u := .slice A2 n2 c2) rfl
  go_wp2_with fail
  refine (fjoin_len (h.on k_0) HE.out (h2.on k_0) HE2.out HN.out).mono ?_
  rintro e w1 ⟨rfl, b_1⟩
  clear f_pf0_0 f_pf1_0 f_pf2_0 f_pg0_0 f_pg1_0 f_pg2_0
  have pf_1 := pf_0.below b_1 pf_0.lt
  have pg_1 := pg_0.below b_1 pg_0.lt
  have k_1 := below_on k_0 b_1
  clear pf_0 pg_0
  have pf_2 := pf_1.alloc (.cells #[.int .i64 0, .int .i64 0, .slice none 0 0] 24)
  have pg_2 := pg_1.alloc (.cells #[.int .i64 0, .int .i64 0, .slice none 0 0] 24)
  have k_2 := below_alloc k_1 (.cells #[.int .i64 0, .int .i64 0, .slice none 0 0] 24)
  have px_2 := Blk.new w1 24 #[.int .i64 0, .int .i64 0, .slice none 0 0]
  clear pf_1 pg_1
  have f_pf0_1 := pf_2.at_ (i := 0) (u := .int .i64 K) rfl
  have f_pf1_1 := pf_2.at_ (i := 1) (u := .int .i64 L) rfl
  have f_pf2_1 := pf_2.at_ (i := 2) (u := .slice A n c) rfl
  have f_pg0_1 := pg_2.at_ (i := 0) (u := .int .i64 K2) rfl
  have f_pg1_1 := pg_2.at_ (i := 1) (u := .int .i64 L2) rfl
  have f_pg2_1 := pg_2.at_ (i := 2) (u := .slice A2 n2 c2) rfl
  have f_px0_1 := px_2.at_ (i := 0) (u := .int .i64 0) rfl
  have f_px1_1 := px_2.at_ (i := 1) (u := .int .i64 0) rfl
  have f_px2_1 := px_2.at_ (i := 2) (u := .slice none 0 0) rfl
  go_wp2_with fail
  refine (most_big (A := A4) (c := c4) hbig).mono ?_
  rintro e w2 ⟨rfl, b_3⟩
  clear f_pf0_1 f_pf1_1 f_pf2_1 f_pg0_1 f_pg1_1 f_pg2_1 f_px0_1 f_px1_1 f_px2_1
  have pf_3 := pf_2.below b_3 pf_2.lt
  have pg_3 := pg_2.below b_3 pg_2.lt
  have px_3 := px_2.below b_3 px_2.lt
  have k_3 := below_on k_2 b_3
  clear pf_2 pg_2 px_2
  have pf_4 := pf_3.alloc (.cells #[.int .i64 5, .int .i64 4, .int .i64 5] 3)
  have pg_4 := pg_3.alloc (.cells #[.int .i64 5, .int .i64 4, .int .i64 5] 3)
  have px_4 := px_3.alloc (.cells #[.int .i64 5, .int .i64 4, .int .i64 5] 3)
  have k_4 := below_alloc k_3 (.cells #[.int .i64 5, .int .i64 4, .int .i64 5] 3)
  have pl_4 := Blk.new w2 3 #[.int .i64 5, .int .i64 4, .int .i64 5]
  clear pf_3 pg_3 px_3
  have s545 : Si _ (some ⟨w2.heap.size, 0, none⟩) 3 3 [5, 4, 5] := Sl.blk 1 3 pl_4 rfl (by simp [maxLen])
  have f_pf0_2 := pf_4.at_ (i := 0) (u := .int .i64 K) rfl
  have f_pf1_2 := pf_4.at_ (i := 1) (u := .int .i64 L) rfl
  have f_pf2_2 := pf_4.at_ (i := 2) (u := .slice A n c) rfl
  have f_pg0_2 := pg_4.at_ (i := 0) (u := .int .i64 K2) rfl
  have f_pg1_2 := pg_4.at_ (i := 1) (u := .int .i64 L2) rfl
  have f_pg2_2 := pg_4.at_ (i := 2) (u := .slice A2 n2 c2) rfl
  have f_px0_2 := px_4.at_ (i := 0) (u := .int .i64 0) rfl
  have f_px1_2 := px_4.at_ (i := 1) (u := .int .i64 0) rfl
  have f_px2_2 := px_4.at_ (i := 2) (u := .slice none 0 0) rfl
  go_wp2_with fail
  refine (most_any s545 (by omega)).mono ?_
  rintro e w3 ⟨rfl, b_5⟩
  clear f_pf0_2 f_pf1_2 f_pf2_2 f_pg0_2 f_pg1_2 f_pg2_2 f_px0_2 f_px1_2 f_px2_2
  have pf_5 := pf_4.below b_5 pf_4.lt
  have pg_5 := pg_4.below b_5 pg_4.lt
  have px_5 := px_4.below b_5 px_4.lt
  have k_5 := below_on k_4 b_5
  clear pf_4 pg_4 px_4
  rw [show mostA [5, 4, 5] = (5, true) from by decide]
  dsimp only
  have f_pf0_3 := pf_5.at_ (i := 0) (u := .int .i64 K) rfl
  have f_pf1_3 := pf_5.at_ (i := 1) (u := .int .i64 L) rfl
  have f_pf2_3 := pf_5.at_ (i := 2) (u := .slice A n c) rfl
  have f_pg0_3 := pg_5.at_ (i := 0) (u := .int .i64 K2) rfl
  have f_pg1_3 := pg_5.at_ (i := 1) (u := .int .i64 L2) rfl
  have f_pg2_3 := pg_5.at_ (i := 2) (u := .slice A2 n2 c2) rfl
  have f_px0_3 := px_5.at_ (i := 0) (u := .int .i64 0) rfl
  have f_px1_3 := px_5.at_ (i := 1) (u := .int .i64 0) rfl
  have f_px2_3 := px_5.at_ (i := 2) (u := .slice none 0 0) rfl
  go_wp2_with fail
  refine (rfew_is (h.on k_5) HE.out).mono ?_
  rintro e w4 ⟨rfl, b_6⟩
  clear f_pf0_3 f_pf1_3 f_pf2_3 f_pg0_3 f_pg1_3 f_pg2_3 f_px0_3 f_px1_3 f_px2_3
  have pf_6 := pf_5.below b_6 pf_5.lt
  have pg_6 := pg_5.below b_6 pg_5.lt
  have px_6 := px_5.below b_6 px_5.lt
  have k_6 := below_on k_5 b_6
  clear pf_5 pg_5 px_5
  have f_pf0_4 := pf_6.at_ (i := 0) (u := .int .i64 K) rfl
  have f_pf1_4 := pf_6.at_ (i := 1) (u := .int .i64 L) rfl
  have f_pf2_4 := pf_6.at_ (i := 2) (u := .slice A n c) rfl
  have f_pg0_4 := pg_6.at_ (i := 0) (u := .int .i64 K2) rfl
  have f_pg1_4 := pg_6.at_ (i := 1) (u := .int .i64 L2) rfl
  have f_pg2_4 := pg_6.at_ (i := 2) (u := .slice A2 n2 c2) rfl
  have f_px0_4 := px_6.at_ (i := 0) (u := .int .i64 0) rfl
  have f_px1_4 := px_6.at_ (i := 1) (u := .int .i64 0) rfl
  have f_px2_4 := px_6.at_ (i := 2) (u := .slice none 0 0) rfl
  go_wp2_with fail
  refine (rfew_is (h2.on k_6) HE2.out).mono ?_
  rintro e w5 ⟨rfl, b_7⟩
  clear f_pf0_4 f_pf1_4 f_pf2_4 f_pg0_4 f_pg1_4 f_pg2_4 f_px0_4 f_px1_4 f_px2_4
  have pf_7 := pf_6.below b_7 pf_6.lt
  have pg_7 := pg_6.below b_7 pg_6.lt
  have px_7 := px_6.below b_7 px_6.lt
  have k_7 := below_on k_6 b_7
  clear pf_6 pg_6 px_6
  have f_pf0_5 := pf_7.at_ (i := 0) (u := .int .i64 K) rfl
  have f_pf1_5 := pf_7.at_ (i := 1) (u := .int .i64 L) rfl
  have f_pf2_5 := pf_7.at_ (i := 2) (u := .slice A n c) rfl
  have f_pg0_5 := pg_7.at_ (i := 0) (u := .int .i64 K2) rfl
  have f_pg1_5 := pg_7.at_ (i := 1) (u := .int .i64 L2) rfl
  have f_pg2_5 := pg_7.at_ (i := 2) (u := .slice A2 n2 c2) rfl
  have f_px0_5 := px_7.at_ (i := 0) (u := .int .i64 0) rfl
  have f_px1_5 := px_7.at_ (i := 1) (u := .int .i64 0) rfl
  have f_px2_5 := px_7.at_ (i := 2) (u := .slice none 0 0) rfl
  go_wp2_with fail
  refine same_none.mono ?_
  rintro e wz ⟨rfl, bz⟩
  go_wp2_with fail
  go_ret
  exact ⟨rfl, below_on k_7 bz⟩
set_option maxRecDepth 100000 in
set_option maxHeartbeats 12800000 in
theorem law_join_len (h : Sp w A n c l) (h2 : Sp w A2 n2 c2 m) (h3 : Si w A4 n4 c4 ls) (hsm : n4 ≤ 40) (hE : fwErr K L n l = 0) (hE2 : fwErr K2 L2 n2 m = 0) (h0 : K ≠ K2) :
    Calls Tryz.prog 3 #[.agg #[.int .i64 K, .int .i64 L, .slice A n c], .agg #[.int .i64 K2, .int .i64 L2, .slice A2 n2 c2], .slice A4 n4 c4] w fun e w' => e = .returned (.bool true) ∧ Below w.heap.size w w' := by
  have t1 : (K != K2) = true := by simpa using h0
  have HN := hide h0
  have HE := hide hE
  have HE2 := hide hE2
  clear hE hE2 h0
  have tb : ¬ (40 : Int) < (n4 : Int) := by omega
  have HMM := hide (most_eq ls)
  obtain ⟨mv, mb, hmv⟩ : ∃ mv mb, mostB ls = (mv, mb) := ⟨_, _, rfl⟩
  have HMV := hide hmv
  clear hmv
  have tv : (mv != mv) = false := by simp
  have tm : (mb != mb) = false := by simp
  have pf_0 := (Blk.new w 24 #[.int .i64 K, .int .i64 L, .slice A n c]).alloc (.cells #[.int .i64 K2, .int .i64 L2, .slice A2 n2 c2] 24)
  have pg_0 := Blk.new (w.alloc (.cells #[.int .i64 K, .int .i64 L, .slice A n c] 24)) 24 #[.int .i64 K2, .int .i64 L2, .slice A2 n2 c2]
  rw [World.size_alloc] at pg_0
  have k_0 : Below w.heap.size w ((w.alloc (.cells #[.int .i64 K, .int .i64 L, .slice A n c] 24)).alloc (.cells #[.int .i64 K2, .int .i64 L2, .slice A2 n2 c2] 24)) := by repeat' (first | assumption | with_reducible exact Below.refl _ _ | with_reducible apply Below.drew | with_reducible apply below_drewN | with_reducible apply below_alloc | with_reducible refine below_set ?_ ?_ _ | (simp only [World.size_alloc, World.heap_drewN]; omega) | (simp; omega))
  go_enter Tryz.func3, Tryz.ntmps3
  have f_pf0_0 := pf_0.at_ (i := 0) (u := .int .i64 K) rfl
  have f_pf1_0 := pf_0.at_ (i := 1) (u := .int .i64 L) rfl
  have f_pf2_0 := pf_0.at_ (i := 2) (u := .slice A n c) rfl
  have f_pg0_0 := pg_0.at_ (i := 0) (u := .int .i64 K2) rfl
  have f_pg1_0 := pg_0.at_ (i := 1) (u := .int .i64 L2) rfl
  have f_pg2_0 := pg_0.at_ (i := 2) (u := .slice A2 n2 c2) rfl
  go_wp2_with fail
  refine (fjoin_len (h.on k_0) HE.out (h2.on k_0) HE2.out HN.out).mono ?_
  rintro e w1 ⟨rfl, b_1⟩
  clear f_pf0_0 f_pf1_0 f_pf2_0 f_pg0_0 f_pg1_0 f_pg2_0
  have pf_1 := pf_0.below b_1 pf_0.lt
  have pg_1 := pg_0.below b_1 pg_0.lt
  have k_1 := below_on k_0 b_1
  clear pf_0 pg_0
  have pf_2 := pf_1.alloc (.cells #[.int .i64 0, .int .i64 0, .slice none 0 0] 24)
  have pg_2 := pg_1.alloc (.cells #[.int .i64 0, .int .i64 0, .slice none 0 0] 24)
  have k_2 := below_alloc k_1 (.cells #[.int .i64 0, .int .i64 0, .slice none 0 0] 24)
  have px_2 := Blk.new w1 24 #[.int .i64 0, .int .i64 0, .slice none 0 0]
  clear pf_1 pg_1
  have f_pf0_1 := pf_2.at_ (i := 0) (u := .int .i64 K) rfl
  have f_pf1_1 := pf_2.at_ (i := 1) (u := .int .i64 L) rfl
  have f_pf2_1 := pf_2.at_ (i := 2) (u := .slice A n c) rfl
  have f_pg0_1 := pg_2.at_ (i := 0) (u := .int .i64 K2) rfl
  have f_pg1_1 := pg_2.at_ (i := 1) (u := .int .i64 L2) rfl
  have f_pg2_1 := pg_2.at_ (i := 2) (u := .slice A2 n2 c2) rfl
  have f_px0_1 := px_2.at_ (i := 0) (u := .int .i64 0) rfl
  have f_px1_1 := px_2.at_ (i := 1) (u := .int .i64 0) rfl
  have f_px2_1 := px_2.at_ (i := 2) (u := .slice none 0 0) rfl
  go_wp2_with fail
  refine (most_any (h3.on k_2) hsm).mono ?_
  rintro e w2 ⟨rfl, b_3⟩
  clear f_pf0_1 f_pf1_1 f_pf2_1 f_pg0_1 f_pg1_1 f_pg2_1 f_px0_1 f_px1_1 f_px2_1
  have pf_3 := pf_2.below b_3 pf_2.lt
  have pg_3 := pg_2.below b_3 pg_2.lt
  have px_3 := px_2.below b_3 px_2.lt
  have k_3 := below_on k_2 b_3
  clear pf_2 pg_2 px_2
  rw [HMM.out, HMV.out]
  dsimp only
  have pf_4 := pf_3.alloc (.cells #[.int .i64 5, .int .i64 4, .int .i64 5] 3)
  have pg_4 := pg_3.alloc (.cells #[.int .i64 5, .int .i64 4, .int .i64 5] 3)
  have px_4 := px_3.alloc (.cells #[.int .i64 5, .int .i64 4, .int .i64 5] 3)
  have k_4 := below_alloc k_3 (.cells #[.int .i64 5, .int .i64 4, .int .i64 5] 3)
  have pl_4 := Blk.new w2 3 #[.int .i64 5, .int .i64 4, .int .i64 5]
  clear pf_3 pg_3 px_3
  have s545 : Si _ (some ⟨w2.heap.size, 0, none⟩) 3 3 [5, 4, 5] := Sl.blk 1 3 pl_4 rfl (by simp [maxLen])
  have f_pf0_2 := pf_4.at_ (i := 0) (u := .int .i64 K) rfl
  have f_pf1_2 := pf_4.at_ (i := 1) (u := .int .i64 L) rfl
  have f_pf2_2 := pf_4.at_ (i := 2) (u := .slice A n c) rfl
  have f_pg0_2 := pg_4.at_ (i := 0) (u := .int .i64 K2) rfl
  have f_pg1_2 := pg_4.at_ (i := 1) (u := .int .i64 L2) rfl
  have f_pg2_2 := pg_4.at_ (i := 2) (u := .slice A2 n2 c2) rfl
  have f_px0_2 := px_4.at_ (i := 0) (u := .int .i64 0) rfl
  have f_px1_2 := px_4.at_ (i := 1) (u := .int .i64 0) rfl
  have f_px2_2 := px_4.at_ (i := 2) (u := .slice none 0 0) rfl
  go_wp2_with fail
  refine (most_any s545 (by omega)).mono ?_
  rintro e w3 ⟨rfl, b_5⟩
  clear f_pf0_2 f_pf1_2 f_pf2_2 f_pg0_2 f_pg1_2 f_pg2_2 f_px0_2 f_px1_2 f_px2_2
  have pf_5 := pf_4.below b_5 pf_4.lt
  have pg_5 := pg_4.below b_5 pg_4.lt
  have px_5 := px_4.below b_5 px_4.lt
  have k_5 := below_on k_4 b_5
  clear pf_4 pg_4 px_4
  rw [show mostA [5, 4, 5] = (5, true) from by decide]
  dsimp only
  have f_pf0_3 := pf_5.at_ (i := 0) (u := .int .i64 K) rfl
  have f_pf1_3 := pf_5.at_ (i := 1) (u := .int .i64 L) rfl
  have f_pf2_3 := pf_5.at_ (i := 2) (u := .slice A n c) rfl
  have f_pg0_3 := pg_5.at_ (i := 0) (u := .int .i64 K2) rfl
  have f_pg1_3 := pg_5.at_ (i := 1) (u := .int .i64 L2) rfl
  have f_pg2_3 := pg_5.at_ (i := 2) (u := .slice A2 n2 c2) rfl
  have f_px0_3 := px_5.at_ (i := 0) (u := .int .i64 0) rfl
  have f_px1_3 := px_5.at_ (i := 1) (u := .int .i64 0) rfl
  have f_px2_3 := px_5.at_ (i := 2) (u := .slice none 0 0) rfl
  go_wp2_with fail
  refine (rmost_any (h3.on k_5) hsm).mono ?_
  rintro e w4 ⟨rfl, b_6⟩
  clear f_pf0_3 f_pf1_3 f_pf2_3 f_pg0_3 f_pg1_3 f_pg2_3 f_px0_3 f_px1_3 f_px2_3
  have pf_6 := pf_5.below b_6 pf_5.lt
  have pg_6 := pg_5.below b_6 pg_5.lt
  have px_6 := px_5.below b_6 px_5.lt
  have k_6 := below_on k_5 b_6
  clear pf_5 pg_5 px_5
  rw [HMV.out]
  dsimp only
  have f_pf0_4 := pf_6.at_ (i := 0) (u := .int .i64 K) rfl
  have f_pf1_4 := pf_6.at_ (i := 1) (u := .int .i64 L) rfl
  have f_pf2_4 := pf_6.at_ (i := 2) (u := .slice A n c) rfl
  have f_pg0_4 := pg_6.at_ (i := 0) (u := .int .i64 K2) rfl
  have f_pg1_4 := pg_6.at_ (i := 1) (u := .int .i64 L2) rfl
  have f_pg2_4 := pg_6.at_ (i := 2) (u := .slice A2 n2 c2) rfl
  have f_px0_4 := px_6.at_ (i := 0) (u := .int .i64 0) rfl
  have f_px1_4 := px_6.at_ (i := 1) (u := .int .i64 0) rfl
  have f_px2_4 := px_6.at_ (i := 2) (u := .slice none 0 0) rfl
  go_wp2_with fail
  refine (rfew_is (h.on k_6) HE.out).mono ?_
  rintro e w5 ⟨rfl, b_7⟩
  clear f_pf0_4 f_pf1_4 f_pf2_4 f_pg0_4 f_pg1_4 f_pg2_4 f_px0_4 f_px1_4 f_px2_4
  have pf_7 := pf_6.below b_7 pf_6.lt
  have pg_7 := pg_6.below b_7 pg_6.lt
  have px_7 := px_6.below b_7 px_6.lt
  have k_7 := below_on k_6 b_7
  clear pf_6 pg_6 px_6
  have f_pf0_5 := pf_7.at_ (i := 0) (u := .int .i64 K) rfl
  have f_pf1_5 := pf_7.at_ (i := 1) (u := .int .i64 L) rfl
  have f_pf2_5 := pf_7.at_ (i := 2) (u := .slice A n c) rfl
  have f_pg0_5 := pg_7.at_ (i := 0) (u := .int .i64 K2) rfl
  have f_pg1_5 := pg_7.at_ (i := 1) (u := .int .i64 L2) rfl
  have f_pg2_5 := pg_7.at_ (i := 2) (u := .slice A2 n2 c2) rfl
  have f_px0_5 := px_7.at_ (i := 0) (u := .int .i64 0) rfl
  have f_px1_5 := px_7.at_ (i := 1) (u := .int .i64 0) rfl
  have f_px2_5 := px_7.at_ (i := 2) (u := .slice none 0 0) rfl
  go_wp2_with fail
  refine (rfew_is (h2.on k_7) HE2.out).mono ?_
  rintro e w6 ⟨rfl, b_8⟩
  clear f_pf0_5 f_pf1_5 f_pf2_5 f_pg0_5 f_pg1_5 f_pg2_5 f_px0_5 f_px1_5 f_px2_5
  have pf_8 := pf_7.below b_8 pf_7.lt
  have pg_8 := pg_7.below b_8 pg_7.lt
  have px_8 := px_7.below b_8 px_7.lt
  have k_8 := below_on k_7 b_8
  clear pf_7 pg_7 px_7
  have f_pf0_6 := pf_8.at_ (i := 0) (u := .int .i64 K) rfl
  have f_pf1_6 := pf_8.at_ (i := 1) (u := .int .i64 L) rfl
  have f_pf2_6 := pf_8.at_ (i := 2) (u := .slice A n c) rfl
  have f_pg0_6 := pg_8.at_ (i := 0) (u := .int .i64 K2) rfl
  have f_pg1_6 := pg_8.at_ (i := 1) (u := .int .i64 L2) rfl
  have f_pg2_6 := pg_8.at_ (i := 2) (u := .slice A2 n2 c2) rfl
  have f_px0_6 := px_8.at_ (i := 0) (u := .int .i64 0) rfl
  have f_px1_6 := px_8.at_ (i := 1) (u := .int .i64 0) rfl
  have f_px2_6 := px_8.at_ (i := 2) (u := .slice none 0 0) rfl
  go_wp2_with fail
  refine same_none.mono ?_
  rintro e wz ⟨rfl, bz⟩
  go_wp2_with fail
  go_ret
  exact ⟨rfl, below_on k_8 bz⟩
end
end Go.Proofs.YtfopihlbdceepaaGreat
