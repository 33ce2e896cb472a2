/-
  The walk of the law StateMarks. Conditions: the slice reads as a list of pairs of texts; the texts' lengths.
-/
import Derived.Test.YtkliebhpdcjdgaaDoorSet3
namespace Go.Proofs.YtkliebhpdcjdgaaDoor
open Go.RowKit Go.Shelf

theorem four {w : World} {g : Nat} {t : TypeId} {a b : Int} {x y : Bool} (h : Blk w g t #[.int .i64 a, .int .i64 b, .bool x, .bool y]) :
    w.cell? ⟨g, 0, none⟩ = some (.int .i64 a) ∧ w.cell? ⟨g, 1, none⟩ = some (.int .i64 b) ∧ w.cell? ⟨g, 2, none⟩ = some (.bool x) ∧ w.cell? ⟨g, 3, none⟩ = some (.bool y) :=
  ⟨h.at_ rfl, h.at_ rfl, h.at_ rfl, h.at_ rfl⟩
def eight : List Pr := [(thName, ⟨#[56]⟩)]
theorem eight_ok : prErr 1 eight = 0 := by decide +kernel
theorem eight_mk : mkRes 1 eight = (36028797018963968, 0, true, false) := by decide +kernel
theorem eight_err : mkErr 1 eight = 0 := by decide +kernel
theorem eight_fit : Fit eight := by
  intro p hp
  rw [eight, List.mem_singleton] at hp
  subst hp
  decide +kernel
section
variable {A : Option Addr} {n c : Nat} {ps : List Pr} {w : World}
theorem smark_bad' (h : Sp2 w A n c ps) (hf : Fit ps) {E : Int} (hE : prErr n ps = E) (h0 : ¬ E = 0) :
    Calls Tryd.prog 15 #[.slice A n c] w fun e w' => e = .returned (.tuple #[.agg #[.int .i64 0, .int .i64 0, .bool false, .bool false], .int .i64 E]) ∧ Below w.heap.size w w' := smark_bad h hf hE h0
theorem smark_is (h : Sp2 w A n c ps) (hf : Fit ps) (hE : prErr n ps = 0) {a b : Int} {x y : Bool} {F : Int} (hM : mkRes n ps = (a, b, x, y)) (hF : mkErr n ps = F) :
    Calls Tryd.prog 15 #[.slice A n c] w fun e w' => e = .returned (.tuple #[.agg #[.int .i64 a, .int .i64 b, .bool x, .bool y], .int .i64 F]) ∧ Below w.heap.size w w' := by
  have k := smark_ok h hf hE; rw [hM, hF] at k; exact k
theorem rmark_is (h : Sp2 w A n c ps) (hf : Fit ps) {a b : Int} {x y : Bool} {F : Int} (hM : mkRes n ps = (a, b, x, y)) (hF : mkErr n ps = F) :
    Calls Tryd.prog 34 #[.slice A n c] w fun e w' => e = .returned (.tuple #[.agg #[.int .i64 a, .int .i64 b, .bool x, .bool y], .int .i64 F]) ∧ Below w.heap.size w w' := by
  have k := rmark_any h hf; rw [hM, hF] at k; exact k
theorem rpairs_is (h : Sp2 w A n c ps) (hf : Fit ps) {E : Int} (hE : prErr n ps = E) :
    Calls Tryd.prog 27 #[.slice A n c] w fun e w' => e = .returned (.int .i64 E) ∧ Below w.heap.size w w' := by
  have k := rpairs_any h hf; rw [hE] at k; exact k
/-- Set, of pairs that may be, on either side. -/
theorem sset_is (h : Sp2 w A n c ps) (hf : Fit ps) (hE : prErr n ps = 0) {a b : Int} {x y : Bool} {F : Int} {L : List Pr} (hF : setE ps (a, b, x, y) = F) (hL : setL ps (a, b, x, y) F = L) :
    Calls Tryd.prog 12 #[.slice A n c, .agg #[.int .i64 a, .int .i64 b, .bool x, .bool y]] w (SetRet w L F) := by
  cases hd : isDraw a && isDraw b
  · have h1 : setE ps (a, b, x, y) = 1 := setE_arg hd
    rw [h1] at hF
    subst hF
    have h2 : L = [] := by rw [← hL]; exact if_neg (by decide)
    rw [h2]
    exact sset_arg h hf hE hd
  · obtain ⟨ha, hb⟩ := Bool.and_eq_true_iff.1 hd
    have h1 := of_decide_eq_true (show decide (0 ≤ a ∧ a ≤ 72057594037927935) = true from ha)
    have h2 := of_decide_eq_true (show decide (0 ≤ b ∧ b ≤ 72057594037927935) = true from hb)
    obtain ⟨u, rfl⟩ : ∃ u : Nat, a = (u : Int) := ⟨a.toNat, by omega⟩
    obtain ⟨v, rfl⟩ : ∃ v : Nat, b = (v : Int) := ⟨b.toNat, by omega⟩
    rw [← hL]
    exact sset_ok h hf hE ha hb hF
theorem rset_is (h : Sp2 w A n c ps) (n40 : n ≤ 40) {a b : Int} {x y : Bool} {F : Int} {L : List Pr} (hF : setE ps (a, b, x, y) = F) (hL : setL ps (a, b, x, y) F = L) :
    Calls Tryd.prog 35 #[.slice A n c, .agg #[.int .i64 a, .int .i64 b, .bool x, .bool y]] w (SetRet w L F) := by
  cases hd : isDraw a && isDraw b
  · have h1 : setE ps (a, b, x, y) = 1 := setE_arg hd
    rw [h1] at hF
    subst hF
    have h2 : L = [] := by rw [← hL]; exact if_neg (by decide)
    rw [h2]
    exact rset_arg hd
  · obtain ⟨ha, hb⟩ := Bool.and_eq_true_iff.1 hd
    have h1 := of_decide_eq_true (show decide (0 ≤ a ∧ a ≤ 72057594037927935) = true from ha)
    have h2 := of_decide_eq_true (show decide (0 ≤ b ∧ b ≤ 72057594037927935) = true from hb)
    obtain ⟨u, rfl⟩ : ∃ u : Nat, a = (u : Int) := ⟨a.toNat, by omega⟩
    obtain ⟨v, rfl⟩ : ∃ v : Nat, b = (v : Int) := ⟨b.toNat, by omega⟩
    rw [← hL]
    exact rset_ok h n40 ha hb hF
set_option maxRecDepth 20000 in
set_option maxHeartbeats 3200000 in
theorem law_marks_bad {a b : Int} {x y : Bool} (h : Sp2 w A n c ps) (hf : Fit ps) {E : Int} (hE : prErr n ps = E) (h0 : ¬ E = 0) :
    Calls Tryd.prog 6 #[.slice A n c, .agg #[.int .i64 a, .int .i64 b, .bool x, .bool y]] w fun e w' => e = .returned (.bool true) ∧ Below w.heap.size w w' := by
  have t1 : (E != 0) = true := by simpa using h0
  have t2 : (E == E) = true := by simp
  have HE := hide hE
  have HN := hide h0
  have bm0 := Blk.new w 34 #[.int .i64 a, .int .i64 b, .bool x, .bool y]
  have k0 : Below w.heap.size w (w.alloc (.cells #[.int .i64 a, .int .i64 b, .bool x, .bool y] 34)) := by repeat' (first | assumption | with_reducible exact Below.refl _ _ | with_reducible apply Below.drew | with_reducible apply below_drewN | with_reducible apply below_alloc | with_reducible refine below_set ?_ ?_ _ | (simp only [World.size_alloc, World.heap_drewN]; omega) | (simp; omega))
  clear hE h0
  go_enter Tryd.func6, Tryd.ntmps6
  go_wp2_with fail
  refine (smark_bad' (h.on k0) hf HE.out HN.out).mono ?_
  rintro e w1 ⟨rfl, bel1⟩
  have k1 : Below w.heap.size w (w1.alloc (.cells #[.int .i64 0, .int .i64 0, .bool false, .bool false] 34)) := below_alloc (below_on k0 bel1) _
  have bm1 := (bm0.below bel1 bm0.lt).alloc (.cells #[.int .i64 0, .int .i64 0, .bool false, .bool false] 34)
  have bx1 := Blk.new w1 34 #[.int .i64 0, .int .i64 0, .bool false, .bool false]
  obtain ⟨c0, c1, c2, c3⟩ := four bm1
  clear bm0 k0 bel1
  go_wp2_with fail
  refine (sset_bad (h.on k1) hf HE.out HN.out).mono ?_
  rintro e w2 ⟨A2, n2, c2', rfl, s2, bel2⟩
  obtain rfl : n2 = 0 := by have := s2.slen; simpa using this.symm
  have k2 := below_on k1 bel2
  have bx2 := bx1.below bel2 bx1.lt
  clear c0 c1 c2 c3 bm1 k1 bel2 s2 bx1
  have k2' : Below w.heap.size w (w2.alloc (.cells (sps eight).toArray 45)) := below_alloc k2 _
  have bx3 := bx2.alloc (.cells (sps eight).toArray 45)
  go_wp2_with fail
  refine (smark_is (ps := eight) (Sl.blk 2 1 (cs := sps eight) (at_new _ _) rfl (by simp [maxLen])) eight_fit eight_ok eight_mk eight_err).mono ?_
  rintro e w3 ⟨rfl, bel3⟩
  have k3 := below_on k2' bel3
  have bx4 := (bx3.below bel3 bx3.lt).alloc (.cells #[.int .i64 36028797018963968, .int .i64 0, .bool true, .bool false] 34)
  have k4 := below_alloc k3 (.cells #[.int .i64 36028797018963968, .int .i64 0, .bool true, .bool false] 34)
  clear k2 k2' bx2 bx3 bel3 k3
  go_wp2_with fail
  refine (rpairs_is (h.on k4) hf HE.out).mono ?_
  rintro e w4 ⟨rfl, bel4⟩
  have k5 := below_on k4 bel4
  obtain ⟨c0, c1, c2, c3⟩ := four (bx4.below bel4 bx4.lt)
  clear k4 bel4 bx4
  go_wp2_with fail
  go_ret
  exact ⟨rfl, k5⟩
set_option maxRecDepth 20000 in
set_option maxHeartbeats 3200000 in
theorem law_marks_ok {a b : Int} {x y : Bool} (h : Sp2 w A n c ps) (hf : Fit ps) (hE : prErr n ps = 0) :
    Calls Tryd.prog 6 #[.slice A n c, .agg #[.int .i64 a, .int .i64 b, .bool x, .bool y]] w fun e w' => e = .returned (.bool true) ∧ Below w.heap.size w w' := by
  have n40 := n_of_ok hE
  obtain ⟨⟨ra, rb, rx, ry⟩, hM⟩ : ∃ M, mkRes n ps = M := ⟨_, rfl⟩
  obtain ⟨F, hF⟩ : ∃ F, mkErr n ps = F := ⟨_, rfl⟩
  obtain ⟨G, hG⟩ : ∃ G, setE ps (a, b, x, y) = G := ⟨_, rfl⟩
  obtain ⟨L, hL⟩ : ∃ L, setL ps (a, b, x, y) G = L := ⟨_, rfl⟩
  have HE := hide hE
  have HM := hide hM
  have HF := hide hF
  have HG := hide hG
  have HL := hide hL
  have tf : (F == F) = true := by simp
  have tg : (G == G) = true := by simp
  have ta : (ra == ra) = true := by simp
  have tb : (rb == rb) = true := by simp
  have tx : (rx == rx) = true := by simp
  have ty : (ry == ry) = true := by simp
  have bm0 := Blk.new w 34 #[.int .i64 a, .int .i64 b, .bool x, .bool y]
  have k0 : Below w.heap.size w (w.alloc (.cells #[.int .i64 a, .int .i64 b, .bool x, .bool y] 34)) := by repeat' (first | assumption | with_reducible exact Below.refl _ _ | with_reducible apply Below.drew | with_reducible apply below_drewN | with_reducible apply below_alloc | with_reducible refine below_set ?_ ?_ _ | (simp only [World.size_alloc, World.heap_drewN]; omega) | (simp; omega))
  clear hE hM hF hG hL
  go_enter Tryd.func6, Tryd.ntmps6
  go_wp2_with fail
  refine (smark_is (h.on k0) hf HE.out HM.out HF.out).mono ?_
  rintro e w1 ⟨rfl, bel1⟩
  have k1 : Below w.heap.size w (w1.alloc (.cells #[.int .i64 ra, .int .i64 rb, .bool rx, .bool ry] 34)) := below_alloc (below_on k0 bel1) _
  have bm1 := (bm0.below bel1 bm0.lt).alloc (.cells #[.int .i64 ra, .int .i64 rb, .bool rx, .bool ry] 34)
  have bx1 := Blk.new w1 34 #[.int .i64 ra, .int .i64 rb, .bool rx, .bool ry]
  obtain ⟨c0, c1, c2, c3⟩ := four bm1
  clear bm0 k0 bel1
  go_wp2_with fail
  refine (sset_is (h.on k1) hf HE.out HG.out HL.out).mono ?_
  rintro e w2 ⟨A2, n2, c2', rfl, s2, bel2⟩
  have k2 := below_on k1 bel2
  have bx2 := bx1.below bel2 bx1.lt
  have bm2 := bm1.below bel2 bm1.lt
  clear c0 c1 c2 c3 bm1 k1 bel2 bx1
  have k2' : Below w.heap.size w (w2.alloc (.cells (sps eight).toArray 45)) := below_alloc k2 _
  have e2 : Below w2.heap.size w2 (w2.alloc (.cells (sps eight).toArray 45)) := below_alloc (Below.refl _ _) _
  have bx3 := bx2.alloc (.cells (sps eight).toArray 45)
  have bm3 := bm2.alloc (.cells (sps eight).toArray 45)
  go_wp2_with fail
  refine (smark_is (ps := eight) (Sl.blk 2 1 (cs := sps eight) (at_new _ _) rfl (by simp [maxLen])) eight_fit eight_ok eight_mk eight_err).mono ?_
  rintro e w3 ⟨rfl, bel3⟩
  have k3 := below_on k2' bel3
  have e3 := below_alloc (below_on e2 bel3) (.cells #[.int .i64 36028797018963968, .int .i64 0, .bool true, .bool false] 34)
  have bx4 := (bx3.below bel3 bx3.lt).alloc (.cells #[.int .i64 36028797018963968, .int .i64 0, .bool true, .bool false] 34)
  have bm4 := (bm3.below bel3 bm3.lt).alloc (.cells #[.int .i64 36028797018963968, .int .i64 0, .bool true, .bool false] 34)
  have k4 := below_alloc k3 (.cells #[.int .i64 36028797018963968, .int .i64 0, .bool true, .bool false] 34)
  clear k2 k2' bx2 bx3 bm2 bm3 bel3 k3 e2
  go_wp2_with fail
  refine (rpairs_is (h.on k4) hf HE.out).mono ?_
  rintro e w4 ⟨rfl, bel4⟩
  have k5 := below_on k4 bel4
  have e4 := below_on e3 bel4
  have bx5 := bx4.below bel4 bx4.lt
  have bm5 := bm4.below bel4 bm4.lt
  clear k4 bel4 bx4 bm4 e3
  go_wp2_with fail
  refine (rmark_is (h.on k5) hf HM.out HF.out).mono ?_
  rintro e w5 ⟨rfl, bel5⟩
  have k6 := below_alloc (below_on k5 bel5) (.cells #[.int .i64 ra, .int .i64 rb, .bool rx, .bool ry] 34)
  have e5 := below_alloc (below_on e4 bel5) (.cells #[.int .i64 ra, .int .i64 rb, .bool rx, .bool ry] 34)
  have bx6 := (bx5.below bel5 bx5.lt).alloc (.cells #[.int .i64 ra, .int .i64 rb, .bool rx, .bool ry] 34)
  have bm6 := (bm5.below bel5 bm5.lt).alloc (.cells #[.int .i64 ra, .int .i64 rb, .bool rx, .bool ry] 34)
  have bp6 := Blk.new w5 34 #[.int .i64 ra, .int .i64 rb, .bool rx, .bool ry]
  obtain ⟨c0, c1, c2, c3⟩ := four bm6
  clear k5 bel5 bx5 bm5 e4
  go_wp2_with fail
  refine (rset_is (h.on k6) n40 HG.out HL.out).mono ?_
  rintro e w6 ⟨A6, n6, c6, rfl, s6, bel6⟩
  have k7 := below_on k6 bel6
  have e6 := below_on e5 bel6
  have s2' := s2.on e6
  obtain rfl : n2 = n6 := s2'.slen.symm.trans s6.slen
  clear c0 c1 c2 c3
  obtain ⟨c0, c1, c2, c3⟩ := four (bx6.below bel6 bx6.lt)
  obtain ⟨d0, d1, d2, d3⟩ := four (bp6.below bel6 bp6.lt)
  clear k6 bel6 bx6 bm6 bp6 e5 e6 s2
  go_wp2_with fail
  refine (equalP_yes A2 A6 n2 c2' c6 L _ s2' s6).mono ?_
  rintro e w7 ⟨rfl, q, rfl⟩
  go_wp2_with fail
  go_ret
  exact ⟨rfl, below_drewN k7 q⟩
end
theorem law_marks (A : Option Addr) (n c : Nat) (ps : List Pr) (a b : Int) (x y : Bool) (w : World) (h : Sp2 w A n c ps) (hf : Fit ps) :
    Calls Tryd.prog 6 #[.slice A n c, .agg #[.int .i64 a, .int .i64 b, .bool x, .bool y]] w fun e w' => e = .returned (.bool true) ∧ Below w.heap.size w w' := by
  by_cases h0 : prErr n ps = 0
  · exact law_marks_ok h hf h0
  · exact law_marks_bad h hf rfl h0
end Go.Proofs.YtkliebhpdcjdgaaDoor
