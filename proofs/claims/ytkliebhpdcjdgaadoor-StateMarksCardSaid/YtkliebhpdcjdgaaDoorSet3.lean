/-
  culref.Set: the walk. Conditions: the slice reads as a list of pairs of texts; it is short.
-/
import Derived.Test.YtkliebhpdcjdgaaDoorSet2
namespace Go.Proofs.YtkliebhpdcjdgaaDoor
open Go.RowKit Go.Shelf
theorem grown_below {w w' : World} {base size n c : Nat} {e : TypeId} {A : Option Addr} {xs : List Value} (h : Own w base e size A n c xs) (hg : w.grownBy w' (blockOf A)) (hb : base ≤ w.heap.size) : Below base w w' :=
  (Below.refl base w).grown hg hb fun _ hg' => (h.blk hg').1
section
variable {A : Option Addr} {n c : Nat} {ps : List Pr} {w : World}
set_option maxRecDepth 20000 in
set_option maxHeartbeats 1600000 in
theorem rset_arg {a b : Int} {x y : Bool} (hd : (isDraw a && isDraw b) = false) :
    Calls Tryd.prog 35 #[.slice A n c, .agg #[.int .i64 a, .int .i64 b, .bool x, .bool y]] w (SetRet w [] 1) := by
  have hb0 : Below w.heap.size w (w.alloc (.cells (mkV (a, b, x, y)).toArray 34)) := by repeat' (first | assumption | with_reducible exact Below.refl _ _ | with_reducible apply Below.drew | with_reducible apply below_drewN | with_reducible apply below_alloc | with_reducible refine below_set ?_ ?_ _ | (simp only [World.size_alloc, World.heap_drewN]; omega) | (simp; omega))
  cases ha : isDraw a
  · have HA := hide ha
    clear hd ha
    go_enter Tryd.func35, Tryd.ntmps35
    go_wp2_with fail
    refine (draw_is HA.out _).mono ?_
    rintro e w2 ⟨rfl, rfl⟩
    go_wp2_with fail
    go_ret2
    exact setRet_nil hb0
  · rw [ha, Bool.true_and] at hd
    have HA := hide ha
    have HB := hide hd
    clear hd ha
    go_enter Tryd.func35, Tryd.ntmps35
    go_wp2_with fail
    refine (draw_is HA.out _).mono ?_
    rintro e w2 ⟨rfl, rfl⟩
    go_wp2_with fail
    refine (draw_is HB.out _).mono ?_
    rintro e w2 ⟨rfl, rfl⟩
    go_wp2_with fail
    go_ret2
    exact setRet_nil hb0
set_option maxRecDepth 20000 in
set_option maxHeartbeats 3200000 in
theorem rset_ok (h : Sp2 w A n c ps) (n40 : n ≤ 40) {a b : Nat} {x y : Bool} (ha : isDraw a = true) (hb : isDraw b = true) {E : Int} (hS : setE ps (a, b, x, y) = E) :
    Calls Tryd.prog 35 #[.slice A n c, .agg #[.int .i64 a, .int .i64 b, .bool x, .bool y]] w (SetRet w (setL ps (a, b, x, y) E) E) := by
  have hlen := hide h.slen
  have b0 := Blk.new w 34 (mkV (a, b, x, y)).toArray
  have hb0 : Below w.heap.size w (w.alloc (.cells (mkV (a, b, x, y)).toArray 34)) := by repeat' (first | assumption | with_reducible exact Below.refl _ _ | with_reducible apply Below.drew | with_reducible apply below_drewN | with_reducible apply below_alloc | with_reducible refine below_set ?_ ?_ _ | (simp only [World.size_alloc, World.heap_drewN]; omega) | (simp; omega))
  have CC := hide (cloneP (h.on hb0) (by omega))
  have hgB : w.heap.size < (w.alloc (.cells (mkV (a, b, x, y)).toArray 34)).heap.size := b0.lt
  obtain ⟨B, hB⟩ : ∃ B, (w.alloc (.cells (mkV (a, b, x, y)).toArray 34)).heap.size = B := ⟨_, rfl⟩
  rw [hB] at CC hgB
  have a4 : a < 72057594037927936 := by have := of_decide_eq_true (show decide (0 ≤ (a : Int) ∧ (a : Int) ≤ 72057594037927935) = true from ha); omega
  have b4 : b < 72057594037927936 := by have := of_decide_eq_true (show decide (0 ≤ (b : Int) ∧ (b : Int) ≤ 72057594037927935) = true from hb); omega
  have HA := hide ha
  have HB := hide hb
  have HS := hide hS
  have CT := hide (rth_any a4)
  have CV := hide (rrv_any b4)
  obtain ⟨ST, hST⟩ : ∃ ST, tx (thS (digs 14 a)) = ST := ⟨_, rfl⟩
  obtain ⟨SV, hSV⟩ : ∃ SV, tx (digs 14 b) = SV := ⟨_, rfl⟩
  have HH := hide (show heads ((a : Int), (b : Int), x, y) = (bif x then [(thName, ST)] else []) ++ (bif y then [(rvName, SV)] else []) by rw [← hST, ← hSV]; unfold heads; simp [tx])
  have HD := hide (show (drawOk (((a : Int), (b : Int), x, y) : Mk).1 && drawOk (((a : Int), (b : Int), x, y) : Mk).2.1) = true by show (isDraw a && isDraw b) = true; rw [HA.out, HB.out]; rfl)
  rw [hST] at CT
  rw [hSV] at CV
  have m0 := b0.at_ (i := 0) (u := .int .i64 a) rfl
  have m1 := b0.at_ (i := 1) (u := .int .i64 b) rfl
  have bB : Below B (w.alloc (.cells (mkV (a, b, x, y)).toArray 34)) (w.alloc (.cells (mkV (a, b, x, y)).toArray 34)) := Below.refl _ _
  have HZ := hide hB
  have hrl := hide (Nat.le_trans (rest_len ps) (Nat.le_of_eq hlen.out))
  clear ha hb hS hST hSV a4 b4
  go_enter Tryd.func35, Tryd.ntmps35
  go_wp2_with fail
  refine (draw_is HA.out _).mono ?_
  rintro e w2 ⟨rfl, rfl⟩
  go_wp2_with fail
  refine (draw_is HB.out _).mono ?_
  rintro e w2 ⟨rfl, rfl⟩
  go_wp2_with fail
  refine CC.out.mono ?_
  rintro e w1 ⟨A1, c1, rfl, ow1, bel1⟩
  have sz1 : B ≤ w1.heap.size := by rw [← HZ.out]; exact bel1.size
  go_wp2_with fail
  refine (deleteFuncP setFn_does ow1).mono ?_
  rintro e w2 ⟨m, hmm, rfl, ow2, gr2⟩
  have bel2 : Below B (w.alloc (.cells (mkV (a, b, x, y)).toArray 34)) w2 := bel1.trans (grown_below ow1 gr2 sz1)
  have sz2 : B ≤ w2.heap.size := Nat.le_trans sz1 gr2.size
  have hmn : m ≤ 40 := by have := hrl.out; unfold rest at this; omega
  have HM := hide (show (rest ps).length = m from hmm.symm)
  have b2 := b0.below bel2 hgB
  have k0 := b2.at_ (i := 0) (u := .int .i64 a) rfl
  have k1 := b2.at_ (i := 1) (u := .int .i64 b) rfl
  have k2 := b2.at_ (i := 2) (u := .bool x) rfl
  have k3 := b2.at_ (i := 3) (u := .bool y) rfl
  clear m0 m1 bB gr2 ow1 hmm
  cases x <;> cases y

  case false.false =>
    have HAll : Hid (setAll ps ((a : Int), (b : Int), false, false) = ([] : List Pr) ++ rest ps) := by unfold setAll; rw [HH.out]; rfl
    have HN : Hid ((([] : List Pr) ++ rest ps).length = m) := by rw [← HM.out]; simp only [Hid, List.length_append, List.length_cons, List.length_nil] <;> omega
    by_cases h40 : 40 < m
    · exact absurd h40 (by omega)
    · have HE := hide (show E = 0 by rw [← HS.out]; exact setE_ok HD.out (by rw [HAll.out, HN.out]; exact h40))
      go_wp2_with fail
      have hbw := below_on hb0 ((bel2).mono (by rw [HZ.out]; exact Nat.le_refl _))
      have s9 : Sp2 _ A1 m c1 (([] : List Pr) ++ rest ps) := ow2.sl
      clear ow2
      rw [HE.out]
      go_ret2
      exact ⟨A1, m, c1, rfl, by rw [show setL ps ((a : Int), (b : Int), false, false) 0 = _ from if_pos rfl, HAll.out]; exact s9, hbw⟩
  case false.true =>
    have HAll : Hid (setAll ps ((a : Int), (b : Int), false, true) = ([(rvName, SV)] : List Pr) ++ rest ps) := by unfold setAll; rw [HH.out]; rfl
    have HN : Hid ((([(rvName, SV)] : List Pr) ++ rest ps).length = (1 + m)) := by rw [← HM.out]; simp only [Hid, List.length_append, List.length_cons, List.length_nil] <;> omega
    by_cases h40 : 40 < (1 + m)
    · have HE := hide (show E = 2 by rw [← HS.out]; exact setE_large HD.out (by rw [HAll.out, HN.out]; exact h40))
      go_wp2_with fail
      refine (CV.out _).mono ?_
      rintro e w3 ⟨rfl, rfl⟩
      go_wp2_with (at_builtin; refine wpList_append_sl T_pair rfl _ _ rfl (by rfl) (by rfl) (show Own _ B 45 2 _ 1 1 (sps [(rvName, SV)]) from Own.of_blk (n := 1) (at_new _ _) (by omega) (by simp [maxLen]) rfl) (ow2.sl.alloc (Nat.le_refl _) _) (sps_one _) (by simp only [maxLen]; omega) (by omega) (by simp <;> omega) ?_; intro Av cv wv ap; have bwv : Below B (w.alloc (.cells (mkV (a, b, false, true)).toArray 34)) wv := ((bel2).alloc (by omega) _).trans ap.below; have bv := b0.below bwv hgB; have mv_0 := bv.at_ (i := 0) (u := .int .i64 a) rfl; have mv_2 := bv.at_ (i := 2) (u := .bool false) rfl)
      have owv := ap.own
      rw [← sps_append] at owv
      have szv : B ≤ wv.heap.size := Nat.le_trans (by rw [World.size_alloc]; omega) ap.below.size
      clear ap
      have hbw := below_on hb0 ((bwv).mono (by rw [HZ.out]; exact Nat.le_refl _))
      have s9 : Sp2 _ Av (1 + m) cv (([(rvName, SV)] : List Pr) ++ rest ps) := owv.sl
      clear ow2 owv
      go_wp2_with fail
      rw [HE.out]
      go_ret2
      exact setRet_nil hbw
    · have HE := hide (show E = 0 by rw [← HS.out]; exact setE_ok HD.out (by rw [HAll.out, HN.out]; exact h40))
      go_wp2_with fail
      refine (CV.out _).mono ?_
      rintro e w3 ⟨rfl, rfl⟩
      go_wp2_with (at_builtin; refine wpList_append_sl T_pair rfl _ _ rfl (by rfl) (by rfl) (show Own _ B 45 2 _ 1 1 (sps [(rvName, SV)]) from Own.of_blk (n := 1) (at_new _ _) (by omega) (by simp [maxLen]) rfl) (ow2.sl.alloc (Nat.le_refl _) _) (sps_one _) (by simp only [maxLen]; omega) (by omega) (by simp <;> omega) ?_; intro Av cv wv ap; have bwv : Below B (w.alloc (.cells (mkV (a, b, false, true)).toArray 34)) wv := ((bel2).alloc (by omega) _).trans ap.below; have bv := b0.below bwv hgB; have mv_0 := bv.at_ (i := 0) (u := .int .i64 a) rfl; have mv_2 := bv.at_ (i := 2) (u := .bool false) rfl)
      have owv := ap.own
      rw [← sps_append] at owv
      have szv : B ≤ wv.heap.size := Nat.le_trans (by rw [World.size_alloc]; omega) ap.below.size
      clear ap
      have hbw := below_on hb0 ((bwv).mono (by rw [HZ.out]; exact Nat.le_refl _))
      have s9 : Sp2 _ Av (1 + m) cv (([(rvName, SV)] : List Pr) ++ rest ps) := owv.sl
      clear ow2 owv
      go_wp2_with fail
      rw [HE.out]
      go_ret2
      exact ⟨Av, (1 + m), cv, rfl, by rw [show setL ps ((a : Int), (b : Int), false, true) 0 = _ from if_pos rfl, HAll.out]; exact s9, hbw⟩
  case true.false =>
    have HAll : Hid (setAll ps ((a : Int), (b : Int), true, false) = ([(thName, ST)] : List Pr) ++ rest ps) := by unfold setAll; rw [HH.out]; rfl
    have HN : Hid ((([(thName, ST)] : List Pr) ++ rest ps).length = (1 + m)) := by rw [← HM.out]; simp only [Hid, List.length_append, List.length_cons, List.length_nil] <;> omega
    by_cases h40 : 40 < (1 + m)
    · have HE := hide (show E = 2 by rw [← HS.out]; exact setE_large HD.out (by rw [HAll.out, HN.out]; exact h40))
      go_wp2_with fail
      refine (CT.out _).mono ?_
      rintro e w3 ⟨rfl, rfl⟩
      go_wp2_with (at_builtin; refine wpList_append_sl T_pair rfl _ _ rfl (by rfl) (by rfl) (show Own _ B 45 2 _ 1 1 (sps [(thName, ST)]) from Own.of_blk (n := 1) (at_new _ _) (by omega) (by simp [maxLen]) rfl) (ow2.sl.alloc (Nat.le_refl _) _) (sps_one _) (by simp only [maxLen]; omega) (by omega) (by simp <;> omega) ?_; intro Au cu wu ap; have bwu : Below B (w.alloc (.cells (mkV (a, b, true, false)).toArray 34)) wu := ((bel2).alloc (by omega) _).trans ap.below; have bu := b0.below bwu hgB; have mu_0 := bu.at_ (i := 0) (u := .int .i64 a) rfl; have mu_2 := bu.at_ (i := 2) (u := .bool true) rfl)
      have owu := ap.own
      rw [← sps_append] at owu
      have szu : B ≤ wu.heap.size := Nat.le_trans (by rw [World.size_alloc]; omega) ap.below.size
      clear ap
      have hbw := below_on hb0 ((bwu).mono (by rw [HZ.out]; exact Nat.le_refl _))
      have s9 : Sp2 _ Au (1 + m) cu (([(thName, ST)] : List Pr) ++ rest ps) := owu.sl
      clear ow2 owu
      go_wp2_with fail
      rw [HE.out]
      go_ret2
      exact setRet_nil hbw
    · have HE := hide (show E = 0 by rw [← HS.out]; exact setE_ok HD.out (by rw [HAll.out, HN.out]; exact h40))
      go_wp2_with fail
      refine (CT.out _).mono ?_
      rintro e w3 ⟨rfl, rfl⟩
      go_wp2_with (at_builtin; refine wpList_append_sl T_pair rfl _ _ rfl (by rfl) (by rfl) (show Own _ B 45 2 _ 1 1 (sps [(thName, ST)]) from Own.of_blk (n := 1) (at_new _ _) (by omega) (by simp [maxLen]) rfl) (ow2.sl.alloc (Nat.le_refl _) _) (sps_one _) (by simp only [maxLen]; omega) (by omega) (by simp <;> omega) ?_; intro Au cu wu ap; have bwu : Below B (w.alloc (.cells (mkV (a, b, true, false)).toArray 34)) wu := ((bel2).alloc (by omega) _).trans ap.below; have bu := b0.below bwu hgB; have mu_0 := bu.at_ (i := 0) (u := .int .i64 a) rfl; have mu_2 := bu.at_ (i := 2) (u := .bool true) rfl)
      have owu := ap.own
      rw [← sps_append] at owu
      have szu : B ≤ wu.heap.size := Nat.le_trans (by rw [World.size_alloc]; omega) ap.below.size
      clear ap
      have hbw := below_on hb0 ((bwu).mono (by rw [HZ.out]; exact Nat.le_refl _))
      have s9 : Sp2 _ Au (1 + m) cu (([(thName, ST)] : List Pr) ++ rest ps) := owu.sl
      clear ow2 owu
      go_wp2_with fail
      rw [HE.out]
      go_ret2
      exact ⟨Au, (1 + m), cu, rfl, by rw [show setL ps ((a : Int), (b : Int), true, false) 0 = _ from if_pos rfl, HAll.out]; exact s9, hbw⟩
  case true.true =>
    have HAll : Hid (setAll ps ((a : Int), (b : Int), true, true) = ([(thName, ST), (rvName, SV)] : List Pr) ++ rest ps) := by unfold setAll; rw [HH.out]; rfl
    have HN : Hid ((([(thName, ST), (rvName, SV)] : List Pr) ++ rest ps).length = (1 + (1 + m))) := by rw [← HM.out]; simp only [Hid, List.length_append, List.length_cons, List.length_nil] <;> omega
    by_cases h40 : 40 < (1 + (1 + m))
    · have HE := hide (show E = 2 by rw [← HS.out]; exact setE_large HD.out (by rw [HAll.out, HN.out]; exact h40))
      go_wp2_with fail
      refine (CV.out _).mono ?_
      rintro e w3 ⟨rfl, rfl⟩
      go_wp2_with (at_builtin; refine wpList_append_sl T_pair rfl _ _ rfl (by rfl) (by rfl) (show Own _ B 45 2 _ 1 1 (sps [(rvName, SV)]) from Own.of_blk (n := 1) (at_new _ _) (by omega) (by simp [maxLen]) rfl) (ow2.sl.alloc (Nat.le_refl _) _) (sps_one _) (by simp only [maxLen]; omega) (by omega) (by simp <;> omega) ?_; intro Av cv wv ap; have bwv : Below B (w.alloc (.cells (mkV (a, b, true, true)).toArray 34)) wv := ((bel2).alloc (by omega) _).trans ap.below; have bv := b0.below bwv hgB; have mv_0 := bv.at_ (i := 0) (u := .int .i64 a) rfl; have mv_2 := bv.at_ (i := 2) (u := .bool true) rfl)
      have owv := ap.own
      rw [← sps_append] at owv
      have szv : B ≤ wv.heap.size := Nat.le_trans (by rw [World.size_alloc]; omega) ap.below.size
      clear ap
      go_wp2_with fail
      refine (CT.out _).mono ?_
      rintro e w3 ⟨rfl, rfl⟩
      go_wp2_with (at_builtin; refine wpList_append_sl T_pair rfl _ _ rfl (by rfl) (by rfl) (show Own _ B 45 2 _ 1 1 (sps [(thName, ST)]) from Own.of_blk (n := 1) (at_new _ _) (by omega) (by simp [maxLen]) rfl) (owv.sl.alloc (Nat.le_refl _) _) (sps_one _) (by simp only [maxLen]; omega) (by omega) (by simp <;> omega) ?_; intro Au cu wu ap; have bwu : Below B (w.alloc (.cells (mkV (a, b, true, true)).toArray 34)) wu := ((bwv).alloc (by omega) _).trans ap.below; have bu := b0.below bwu hgB; have mu_0 := bu.at_ (i := 0) (u := .int .i64 a) rfl; have mu_2 := bu.at_ (i := 2) (u := .bool true) rfl)
      have owu := ap.own
      rw [← sps_append] at owu
      have szu : B ≤ wu.heap.size := Nat.le_trans (by rw [World.size_alloc]; omega) ap.below.size
      clear ap
      have hbw := below_on hb0 ((bwu).mono (by rw [HZ.out]; exact Nat.le_refl _))
      have s9 : Sp2 _ Au (1 + (1 + m)) cu (([(thName, ST), (rvName, SV)] : List Pr) ++ rest ps) := owu.sl
      clear ow2 owv owu
      go_wp2_with fail
      rw [HE.out]
      go_ret2
      exact setRet_nil hbw
    · have HE := hide (show E = 0 by rw [← HS.out]; exact setE_ok HD.out (by rw [HAll.out, HN.out]; exact h40))
      go_wp2_with fail
      refine (CV.out _).mono ?_
      rintro e w3 ⟨rfl, rfl⟩
      go_wp2_with (at_builtin; refine wpList_append_sl T_pair rfl _ _ rfl (by rfl) (by rfl) (show Own _ B 45 2 _ 1 1 (sps [(rvName, SV)]) from Own.of_blk (n := 1) (at_new _ _) (by omega) (by simp [maxLen]) rfl) (ow2.sl.alloc (Nat.le_refl _) _) (sps_one _) (by simp only [maxLen]; omega) (by omega) (by simp <;> omega) ?_; intro Av cv wv ap; have bwv : Below B (w.alloc (.cells (mkV (a, b, true, true)).toArray 34)) wv := ((bel2).alloc (by omega) _).trans ap.below; have bv := b0.below bwv hgB; have mv_0 := bv.at_ (i := 0) (u := .int .i64 a) rfl; have mv_2 := bv.at_ (i := 2) (u := .bool true) rfl)
      have owv := ap.own
      rw [← sps_append] at owv
      have szv : B ≤ wv.heap.size := Nat.le_trans (by rw [World.size_alloc]; omega) ap.below.size
      clear ap
      go_wp2_with fail
      refine (CT.out _).mono ?_
      rintro e w3 ⟨rfl, rfl⟩
      go_wp2_with (at_builtin; refine wpList_append_sl T_pair rfl _ _ rfl (by rfl) (by rfl) (show Own _ B 45 2 _ 1 1 (sps [(thName, ST)]) from Own.of_blk (n := 1) (at_new _ _) (by omega) (by simp [maxLen]) rfl) (owv.sl.alloc (Nat.le_refl _) _) (sps_one _) (by simp only [maxLen]; omega) (by omega) (by simp <;> omega) ?_; intro Au cu wu ap; have bwu : Below B (w.alloc (.cells (mkV (a, b, true, true)).toArray 34)) wu := ((bwv).alloc (by omega) _).trans ap.below; have bu := b0.below bwu hgB; have mu_0 := bu.at_ (i := 0) (u := .int .i64 a) rfl; have mu_2 := bu.at_ (i := 2) (u := .bool true) rfl)
      have owu := ap.own
      rw [← sps_append] at owu
      have szu : B ≤ wu.heap.size := Nat.le_trans (by rw [World.size_alloc]; omega) ap.below.size
      clear ap
      have hbw := below_on hb0 ((bwu).mono (by rw [HZ.out]; exact Nat.le_refl _))
      have s9 : Sp2 _ Au (1 + (1 + m)) cu (([(thName, ST), (rvName, SV)] : List Pr) ++ rest ps) := owu.sl
      clear ow2 owv owu
      go_wp2_with fail
      rw [HE.out]
      go_ret2
      exact ⟨Au, (1 + (1 + m)), cu, rfl, by rw [show setL ps ((a : Int), (b : Int), true, true) 0 = _ from if_pos rfl, HAll.out]; exact s9, hbw⟩
end
end Go.Proofs.YtkliebhpdcjdgaaDoor
