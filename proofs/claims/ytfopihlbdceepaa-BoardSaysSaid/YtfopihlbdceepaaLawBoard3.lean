/-
  The walk of the law BoardSays, one of its cases. Conditions: what the functions that it calls answer.
-/
import Derived.Test.YtfopihlbdceepaaRPut
import Derived.Test.YtfopihlbdceepaaBoard9
import Derived.Test.YtfopihlbdceepaaEqR
namespace Go.Proofs.Ytfopihlbdceepaa
open Go.RowKit Go.Shelf

set_option maxRecDepth 100000 in
set_option maxHeartbeats 6400000 in
theorem law_board_two_none {A A2 : Option Addr} {n c n2 c2 : Nat} {p name : ByteArray} {x y : Int} {PE JE V E3 D : Int} {PL JL : List Rul} {w : World} (hl : ¬ 200 < name.size) (hD : ¬ 0 ≤ D) (hE3 : E3 = 4) (hV : V = 0)
    (CPUT : Hid (∀ w', Below w.heap.size w w' → Calls Try.prog 5 #[.slice A n c, .agg #[.string p, .int .i64 x, .int .i64 y]] w' fun e w'' => ∃ A' n' c', e = .returned (.tuple #[.slice A' n' c', .int .i64 PE]) ∧ Sr w'' A' n' c' PL ∧ Below w'.heap.size w' w''))
    (CJOIN : Hid (∀ w', Below w.heap.size w w' → Calls Try.prog 6 #[.slice A n c, .slice A2 n2 c2] w' fun e w'' => ∃ A' n' c', e = .returned (.tuple #[.slice A' n' c', .int .i64 JE]) ∧ Sr w'' A' n' c' JL ∧ Below w'.heap.size w' w''))
    (CASK : Hid (∀ w', Below w.heap.size w w' → Calls Try.prog 7 #[.slice A n c, .string name] w' fun e w'' => e = .returned (.tuple #[.int .i64 V, .int .i64 E3]) ∧ Below w'.heap.size w' w''))
    (CR : Hid (∀ w', Below w.heap.size w w' → ∀ g : Nat, w'.cell? ⟨g, 0, none⟩ = some (.slice A n c) → Calls Try.prog 8 #[.slice (some ⟨g, 0, none⟩) 1 1] w' fun e w'' => e = .returned (.int .i64 0) ∧ Below w'.heap.size w' w''))
    (CC : Hid (∀ w', Below w.heap.size w w' → Calls Try.prog 9 #[.slice A n c] w' fun e w'' => e = .returned (.int .i64 0) ∧ Below w'.heap.size w' w''))
    (CZ : Hid (∀ (w' : World) (g : Nat), Blk w' g 24 #[.string ⟨#[]⟩, .int .i64 0, .int .i64 0] → Calls Try.prog 9 #[.slice (some ⟨g, 0, none⟩) 1 1] w' fun e w'' => e = .returned (.int .i64 1) ∧ Below w'.heap.size w' w''))
    (RPUT : Hid (∀ w', Below w.heap.size w w' → Calls Try.prog 10 #[.slice A n c, .agg #[.string p, .int .i64 x, .int .i64 y]] w' fun e w'' => ∃ A' n' c', e = .returned (.tuple #[.slice A' n' c', .int .i64 PE]) ∧ Sr w'' A' n' c' PL ∧ Below w'.heap.size w' w''))
    (CR2 : Hid (∀ w', Below w.heap.size w w' → ∀ g : Nat, w'.cell? ⟨g, 0, none⟩ = some (.slice A2 n2 c2) → Calls Try.prog 8 #[.slice (some ⟨g, 0, none⟩) 1 1] w' fun e w'' => e = .returned (.int .i64 0) ∧ Below w'.heap.size w' w''))
    (RJOIN : Hid (∀ w', Below w.heap.size w w' → Calls Try.prog 12 #[.slice A n c, .slice A2 n2 c2] w' fun e w'' => ∃ A' n' c', e = .returned (.tuple #[.slice A' n' c', .int .i64 JE]) ∧ Sr w'' A' n' c' JL ∧ Below w'.heap.size w' w''))
    (RASK : Hid (∀ w', Below w.heap.size w w' → Calls Try.prog 13 #[.slice A n c, .string name] w' fun e w'' => e = .returned (.int .i64 D) ∧ Below w'.heap.size w' w''))
    : Calls Try.prog 3 #[.slice A n c, .slice A2 n2 c2, .agg #[.string p, .int .i64 x, .int .i64 y], .string name] w fun e w' => e = .returned (.bool true) ∧ Below w.heap.size w w' := by
  subst hE3 hV
  have b0 := Blk.new w 24 #[.string p, .int .i64 x, .int .i64 y]
  have kw0 : Below w.heap.size w (w.alloc (.cells #[.string p, .int .i64 x, .int .i64 y] 24)) := by repeat' (first | assumption | with_reducible exact Below.refl _ _ | with_reducible apply Below.drew | with_reducible apply below_drewN | with_reducible apply below_alloc | with_reducible refine below_set ?_ ?_ _ | (simp only [World.size_alloc, World.heap_drewN]; omega) | (simp; omega))
  go_enter Try.func3, Try.ntmps3
  have r0_0 := b0.at_ (i := 0) (u := .string p) rfl
  have r1_0 := b0.at_ (i := 1) (u := .int .i64 x) rfl
  have r2_0 := b0.at_ (i := 2) (u := .int .i64 y) rfl
  go_wp2_with fail
  refine (CPUT.out _ kw0).mono ?_
  rintro e w1 ⟨A1, n1, c1, rfl, s1, bel1⟩
  have k1 : Below w.heap.size w w1 := below_on kw0 bel1
  have b1 := (b0).below bel1 (b0).lt
  clear r0_0 r1_0 r2_0 b0 CPUT
  go_wp2_with fail
  refine (CJOIN.out _ k1).mono ?_
  rintro e w2 ⟨AJ, nJ, cJ, rfl, s2, bel2⟩
  have k2 : Below w.heap.size w w2 := below_on k1 bel2
  have b2 := (b1).below bel2 (b1).lt
  have sP_2 := (s1).on bel2
  go_wp2_with fail
  refine (CASK.out _ k2).mono ?_
  rintro e w3 ⟨rfl, bel3⟩
  have k3 : Below w.heap.size w w3 := below_on k2 bel3
  have b3 := (b2).below bel3 (b2).lt
  have sP_3 := (sP_2).on bel3
  have sJ_3 := (s2).on bel3
  have ka3 := below_alloc k3 (.cells #[.slice A n c] 22)
  have cg : (w3.alloc (.cells #[.slice A n c] 22)).cell? ⟨w3.heap.size, 0, none⟩ = some (.slice A n c) := (Blk.new w3 22 #[.slice A n c]).at_ (i := 0) rfl
  go_wp2_with fail
  refine (CR.out _ ka3 _ cg).mono ?_
  rintro e w4 ⟨rfl, bel4⟩
  have k4 : Below w.heap.size w w4 := below_on ka3 bel4
  have b4 := (b3.alloc (.cells #[.slice A n c] 22)).below bel4 (b3.alloc (.cells #[.slice A n c] 22)).lt
  have sP_4 := ((sP_3).alloc (Nat.le_refl _) (.cells #[.slice A n c] 22) |>.more (by simp)).on bel4
  have sJ_4 := ((sJ_3).alloc (Nat.le_refl _) (.cells #[.slice A n c] 22) |>.more (by simp)).on bel4
  clear cg
  go_wp2_with fail
  refine (CC.out _ k4).mono ?_
  rintro e w5 ⟨rfl, bel5⟩
  have k5 : Below w.heap.size w w5 := below_on k4 bel5
  have b5 := (b4).below bel5 (b4).lt
  have sP_5 := (sP_4).on bel5
  have sJ_5 := (sJ_4).on bel5
  have ka5 := below_alloc k5 (.cells #[.string ⟨#[]⟩, .int .i64 0, .int .i64 0] 24)
  have cz := Blk.new w5 24 #[.string ⟨#[]⟩, .int .i64 0, .int .i64 0]
  go_wp2_with fail
  refine (CZ.out _ _ cz).mono ?_
  rintro e w6 ⟨rfl, bel6⟩
  have k6 : Below w.heap.size w w6 := below_on ka5 bel6
  have b6 := (b5.alloc (.cells #[.string ⟨#[]⟩, .int .i64 0, .int .i64 0] 24)).below bel6 (b5.alloc (.cells #[.string ⟨#[]⟩, .int .i64 0, .int .i64 0] 24)).lt
  have sP_6 := ((sP_5).alloc (Nat.le_refl _) (.cells #[.string ⟨#[]⟩, .int .i64 0, .int .i64 0] 24) |>.more (by simp)).on bel6
  have sJ_6 := ((sJ_5).alloc (Nat.le_refl _) (.cells #[.string ⟨#[]⟩, .int .i64 0, .int .i64 0] 24) |>.more (by simp)).on bel6
  clear cz
  have r0_6 := b6.at_ (i := 0) (u := .string p) rfl
  have r1_6 := b6.at_ (i := 1) (u := .int .i64 x) rfl
  have r2_6 := b6.at_ (i := 2) (u := .int .i64 y) rfl
  go_wp2_with fail
  refine (RPUT.out _ k6).mono ?_
  rintro e w7 ⟨AR, nR, cR, rfl, s7, bel7⟩
  have k7 : Below w.heap.size w w7 := below_on k6 bel7
  have b7 := (b6).below bel7 (b6).lt
  have sP_7 := (sP_6).on bel7
  have sJ_7 := (sJ_6).on bel7
  clear r0_6 r1_6 r2_6
  obtain rfl : nR = n1 := s7.rlen.symm.trans s1.rlen
  go_wp2_with fail
  refine (equalR_yes _ _ _ _ _ _ _ (sP_7) (s7)).mono ?_
  rintro e w8 ⟨rfl, q8, rfl⟩
  obtain ⟨w8, hw8⟩ : ∃ W, w7.drewN q8 = W := ⟨_, rfl⟩
  rw [hw8]
  have bel8 : Below w7.heap.size w7 w8 := hw8 ▸ below_drewN (Below.refl _ _) _
  clear hw8
  have k8 := below_on k7 bel8
  have sP_8 := (sP_7).on bel8
  have sJ_8 := (sJ_7).on bel8
  have ka8 := below_alloc k8 (.cells #[.slice A2 n2 c2] 22)
  have cg : (w8.alloc (.cells #[.slice A2 n2 c2] 22)).cell? ⟨w8.heap.size, 0, none⟩ = some (.slice A2 n2 c2) := (Blk.new w8 22 #[.slice A2 n2 c2]).at_ (i := 0) rfl
  go_wp2_with fail
  refine (CR2.out _ ka8 _ cg).mono ?_
  rintro e w9 ⟨rfl, bel9⟩
  have k9 : Below w.heap.size w w9 := below_on ka8 bel9
  have sJ_9 := ((sJ_8).alloc (Nat.le_refl _) (.cells #[.slice A2 n2 c2] 22) |>.more (by simp)).on bel9
  clear cg
  go_wp2_with fail
  refine (RJOIN.out _ k9).mono ?_
  rintro e w10 ⟨AS, nS, cS, rfl, s9, bel10⟩
  have k10 : Below w.heap.size w w10 := below_on k9 bel10
  have sJ_10 := (sJ_9).on bel10
  obtain rfl : nS = nJ := s9.rlen.symm.trans s2.rlen
  go_wp2_with fail
  refine (equalR_yes _ _ _ _ _ _ _ (sJ_10) (s9)).mono ?_
  rintro e w11 ⟨rfl, q11, rfl⟩
  obtain ⟨w11, hw11⟩ : ∃ W, w10.drewN q11 = W := ⟨_, rfl⟩
  rw [hw11]
  have bel11 : Below w10.heap.size w10 w11 := hw11 ▸ below_drewN (Below.refl _ _) _
  clear hw11
  have k11 := below_on k10 bel11
  have sJ_11 := (sJ_10).on bel11
  go_wp2_with fail
  refine (RASK.out _ k11).mono ?_
  rintro e w12 ⟨rfl, bel12⟩
  have k12 : Below w.heap.size w w12 := below_on k11 bel12
  go_wp2_with fail
  go_ret
  exact ⟨rfl, k12⟩
end Go.Proofs.Ytfopihlbdceepaa
