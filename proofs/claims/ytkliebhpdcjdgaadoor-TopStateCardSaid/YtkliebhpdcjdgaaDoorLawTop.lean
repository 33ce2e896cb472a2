/-
  cultop.TopState: the law's walk. Conditions: the name's length; the library's own number is set.
-/
import Derived.Test.YtkliebhpdcjdgaaDoorTopSt
namespace Go.Proofs.YtkliebhpdcjdgaaDoor
open Go.RowKit Go.Shelf

theorem of_is {s : ByteArray} (h : s.size ≤ 200) (w : World) : Calls Tryd.prog 9 #[.string s] w fun e w' => (∃ r : Nat, r < 72057594037927936 ∧ e = .returned (.tuple #[.int .i64 r, .int .i64 0])) ∧ w = w' := by
  have k := of_any s (by omega) w
  rw [show ofErr s = 0 from if_neg (by omega), show ofVal s = _ from if_neg (by omega)] at k
  refine k.mono ?_
  rintro e w' ⟨rfl, rfl⟩
  refine ⟨⟨_, ?_, rfl⟩, rfl⟩
  have := mixN_lt (hashN s s.size)
  omega
theorem keep_is {th r : Nat} {b : Bool} (h : th < 72057594037927936) (h2 : r < 72057594037927936) (hb : decide (th ≤ r) = b) (w : World) : Calls Tryd.prog 11 #[.int .i64 th, .int .i64 r] w fun e w' => e = .returned (.tuple #[.bool b, .int .i64 0]) ∧ w = w' := by
  have k := keep_ok (draw_nat h) (draw_nat h2) w
  rw [show decide ((th : Int) ≤ (r : Int)) = b by rw [← hb]; exact decide_eq_decide.2 (by omega)] at k
  exact k
set_option maxRecDepth 20000 in
set_option maxHeartbeats 3200000 in
theorem law_top (s : ByteArray) (a b : Int) (w : World) (hs : s.size ≤ 140737488351232) (hm : MaxSet w) :
    Calls Tryd.prog 3 #[.string s, .int .i64 a, .int .i64 b] w fun e w' => e = .returned (.bool true) ∧ Below w.heap.size w w' := by
  obtain ⟨m0, hm0, hm1, hm2⟩ : ∃ m0 : Nat, min (s.size : Int) 200 = (m0 : Int) ∧ m0 ≤ 200 ∧ m0 ≤ s.size := by
    by_cases h6 : s.size ≤ 200
    · exact ⟨s.size, by omega, h6, Nat.le_refl _⟩
    · exact ⟨200, by omega, Nat.le_refl _, by omega⟩
  obtain ⟨S, hS⟩ : ∃ S, s.extract 0 m0 = S := ⟨_, rfl⟩
  have zS : S.size ≤ 200 := by rw [← hS, ByteArray.size_extract]; omega
  have HS := hide hS
  have HM := hide hm
  clear hm hS
  go_enter Tryd.func3, Tryd.ntmps3
  go_wp2_with fail
  refine (begun_ok _).mono ?_
  rintro e w1 ⟨rfl, hb1⟩
  go_wp2_with fail
  refine (within_m (m := 21) (by decide) (by decide) _ _).mono ?_
  rintro e w2 ⟨⟨k, hk, rfl⟩, rfl⟩
  go_wp2_with fail
  refine (within_m (m := 21) (by decide) (by decide) _ _).mono ?_
  rintro e w2 ⟨⟨o, ho, rfl⟩, rfl⟩
  go_wp2_with fail
  rw [HS.out]
  refine (of_is zS _).mono ?_
  rintro e w2 ⟨⟨r, hr, rfl⟩, rfl⟩
  have CL1 := hide (glevel_is hk)
  have CL2 := hide (glevel_is ho)
  have CS := hide (sset_is hk hr)
  have CW := hide (fun (A : Option Addr) (c : Nat) (w : World) (h : Sp2 w A 2 c (prsOf k r)) => write_is hk h)
  have CR := hide (fun (w : World) (hm : MaxSet w) => sread_is (r := r) hk hm)
  have CM := hide (fun (A : Option Addr) (c : Nat) (w : World) (h : Sp2 w A 2 c (prsOf k r)) => smark_is hk hr h)
  have CC := hide (count_is hk)
  have CT := hide (fun w => th_any (lvl k) (draw_nat (lvl_lt k (by omega))) w)
  have hd0 : (prsOf k r)[0]? = some (thPr (mkOf k r)) := rfl
  have CN := hide (fun (A : Option Addr) (c : Nat) (w : World) (h : Sp2 w A 2 c (prsOf k r)) => contains_head h hd0)
  have hth : (thPr (mkOf k r)).2 = tx (thS (digs 14 (lvl k))) := by rw [← bl_th (k := k) (r := r)]; exact tx_of _
  rw [hth, show (thPr (mkOf k r)).1 = ⟨#[116, 104]⟩ from rfl] at CN
  obtain ⟨bk, hbk⟩ : ∃ bk, decide (lvl k ≤ r) = bk := ⟨_, rfl⟩
  obtain ⟨bo, hbo⟩ : ∃ bo, decide (lvl o ≤ r) = bo := ⟨_, rfl⟩
  have tk := lvl_lt k (by omega)
  have tq := lvl_lt o (by omega)
  have CK := hide (keep_is tk hr hbk)
  have CO := hide (keep_is tq hr hbo)
  have hmore : o ≤ k → bk = true → bo = true := by
    intro h1 h2
    rw [← hbk] at h2
    rw [← hbo]
    have := lvl_mono h1
    have := of_decide_eq_true h2
    exact decide_eq_true (by omega)
  have HMORE := hide hmore
  obtain ⟨F, hF⟩ : ∃ F, (2 ^ k : Nat) = F := ⟨_, rfl⟩
  have HF := hide hF
  rw [hF] at CC
  have hFb : F ≤ 1048576 := by rw [← hF]; exact Nat.le_trans (Nat.pow_le_pow_right (by decide) (show k ≤ 20 by omega)) (by decide)
  obtain ⟨t, ht⟩ : ∃ t, lvl k = t := ⟨_, rfl⟩
  obtain ⟨t2, ht2⟩ : ∃ t, lvl o = t := ⟨_, rfl⟩
  obtain ⟨T, hT⟩ : ∃ T, tx (txTo (prsOf k r) 2) = T := ⟨_, rfl⟩
  obtain ⟨TH, hTH⟩ : ∃ TH, tx (thS (digs 14 (lvl k))) = TH := ⟨_, rfl⟩
  rw [hTH] at CT CN
  rw [hT] at CW CR
  rw [ht] at CL1 CS CM CC CT CK tk
  rw [ht2] at CL2 CO tq
  have slP : ∀ (w : World) (A : Option Addr) (n c : Nat), Sp2 w A n c (prsOf k r) → n = 2 := fun _ _ _ _ h => h.slen.symm
  have SLP := hide slP
  clear hth hd0 hbk hbo hmore hF ht ht2 hT hTH hm0 slP
  go_wp2_with fail
  refine (CL1.out _).mono ?_
  rintro e w2 ⟨rfl, rfl⟩
  go_wp2_with fail
  refine (CK.out _).mono ?_
  rintro e w2 ⟨rfl, rfl⟩
  go_wp2_with fail
  refine (CS.out _).mono ?_
  rintro e w2 ⟨A2, n2, c2, rfl, s2, b2⟩
  obtain rfl : n2 = 2 := SLP.out _ _ _ _ s2
  have k2 := below_on hb1 b2
  go_wp2_with fail
  refine (CW.out _ _ _ s2).mono ?_
  rintro e w3 ⟨rfl, b3⟩
  have k3 := below_on k2 b3
  have s3 := s2.on b3
  clear s2
  go_wp2_with fail
  refine (CR.out _ (HM.out.below k3)).mono ?_
  rintro e w4 ⟨A4, n4, c4, rfl, s4, b4⟩
  obtain rfl : n4 = 2 := SLP.out _ _ _ _ s4
  have k4 := below_on k3 b4
  have s3' := s3.on b4
  clear s3
  go_wp2_with fail
  refine (CM.out _ _ _ s4).mono ?_
  rintro e w5 ⟨rfl, b5⟩
  have k5 := below_on k4 b5
  have s5 := s3'.on b5
  clear s3' s4
  go_wp2_with fail
  refine (CK.out _).mono ?_
  rintro e w' ⟨rfl, rfl⟩
  go_wp2_with fail
  refine (CC.out _).mono ?_
  rintro e w' ⟨rfl, q6, rfl⟩
  go_wp2_with fail
  refine (CL2.out _).mono ?_
  rintro e w' ⟨rfl, rfl⟩
  go_wp2_with fail
  refine (CO.out _).mono ?_
  rintro e w' ⟨rfl, rfl⟩
  go_wp2_with fail
  have hE : Si (((w5.alloc (Obj.cells #[.int .i64 t, .int .i64 r, .bool true, .bool true] 34)).drewN q6).alloc (Obj.cells #[.int .i64 0, .int .i64 0, .int .i64 0, .int .i64 0, .int .i64 0, .int .i64 0, .int .i64 0, .int .i64 0, .int .i64 0, .int .i64 0, .int .i64 0] 24)) (some ⟨w5.heap.size + 1, 0, none⟩) 11 11 (List.replicate 11 0) := by
    have e := at_new ((w5.alloc (Obj.cells #[.int .i64 t, .int .i64 r, .bool true, .bool true] 34)).drewN q6) (Obj.cells #[.int .i64 0, .int .i64 0, .int .i64 0, .int .i64 0, .int .i64 0, .int .i64 0, .int .i64 0, .int .i64 0, .int .i64 0, .int .i64 0, .int .i64 0] 24)
    have e2 : ((w5.alloc (Obj.cells #[.int .i64 t, .int .i64 r, .bool true, .bool true] 34)).drewN q6).heap.size = w5.heap.size + 1 := by rw [← World.size_alloc w5]; rfl
    rw [e2] at e
    exact Sl.blk 1 11 (e := 24) e rfl (by simp [maxLen])
  have hB : (((w5.alloc (Obj.cells #[.int .i64 t, .int .i64 r, .bool true, .bool true] 34)).drewN q6).alloc (Obj.cells #[.int .i64 0, .int .i64 0, .int .i64 0, .int .i64 0, .int .i64 0, .int .i64 0, .int .i64 0, .int .i64 0, .int .i64 0, .int .i64 0, .int .i64 0] 24)).heap[w5.heap.size]? = some (Obj.cells #[.int .i64 t, .int .i64 r, .bool true, .bool true] 34) := by
    rw [heap_alloc_get, if_neg (by show ¬ w5.heap.size = (w5.alloc _).heap.size; rw [World.size_alloc]; omega)]
    exact at_new w5 _
  have d0 : (((w5.alloc (Obj.cells #[.int .i64 t, .int .i64 r, .bool true, .bool true] 34)).drewN q6).alloc (Obj.cells #[.int .i64 0, .int .i64 0, .int .i64 0, .int .i64 0, .int .i64 0, .int .i64 0, .int .i64 0, .int .i64 0, .int .i64 0, .int .i64 0, .int .i64 0] 24)).cell? ⟨w5.heap.size, 0, none⟩ = some (.int .i64 t) := (cell_of_row _ _ 0 _ _ (0, 0) hB).trans rfl
  have d1 : (((w5.alloc (Obj.cells #[.int .i64 t, .int .i64 r, .bool true, .bool true] 34)).drewN q6).alloc (Obj.cells #[.int .i64 0, .int .i64 0, .int .i64 0, .int .i64 0, .int .i64 0, .int .i64 0, .int .i64 0, .int .i64 0, .int .i64 0, .int .i64 0, .int .i64 0] 24)).cell? ⟨w5.heap.size, 1, none⟩ = some (.int .i64 r) := (cell_of_row _ _ 1 _ _ (0, 0) hB).trans rfl
  have d2 : (((w5.alloc (Obj.cells #[.int .i64 t, .int .i64 r, .bool true, .bool true] 34)).drewN q6).alloc (Obj.cells #[.int .i64 0, .int .i64 0, .int .i64 0, .int .i64 0, .int .i64 0, .int .i64 0, .int .i64 0, .int .i64 0, .int .i64 0, .int .i64 0, .int .i64 0] 24)).cell? ⟨w5.heap.size, 2, none⟩ = some (.bool true) := (cell_of_row _ _ 2 _ _ (0, 0) hB).trans rfl
  have d3 : (((w5.alloc (Obj.cells #[.int .i64 t, .int .i64 r, .bool true, .bool true] 34)).drewN q6).alloc (Obj.cells #[.int .i64 0, .int .i64 0, .int .i64 0, .int .i64 0, .int .i64 0, .int .i64 0, .int .i64 0, .int .i64 0, .int .i64 0, .int .i64 0, .int .i64 0] 24)).cell? ⟨w5.heap.size, 3, none⟩ = some (.bool true) := (cell_of_row _ _ 3 _ _ (0, 0) hB).trans rfl
  have dz : w5.heap.size < (((w5.alloc (Obj.cells #[.int .i64 t, .int .i64 r, .bool true, .bool true] 34)).drewN q6).alloc (Obj.cells #[.int .i64 0, .int .i64 0, .int .i64 0, .int .i64 0, .int .i64 0, .int .i64 0, .int .i64 0, .int .i64 0, .int .i64 0, .int .i64 0, .int .i64 0] 24)).heap.size := (Array.getElem?_eq_some_iff.1 hB).1
  have kE : Below w.heap.size w (((w5.alloc (Obj.cells #[.int .i64 t, .int .i64 r, .bool true, .bool true] 34)).drewN q6).alloc (Obj.cells #[.int .i64 0, .int .i64 0, .int .i64 0, .int .i64 0, .int .i64 0, .int .i64 0, .int .i64 0, .int .i64 0, .int .i64 0, .int .i64 0, .int .i64 0] 24)) := by repeat' (first | assumption | with_reducible exact Below.refl _ _ | with_reducible apply Below.drew | with_reducible apply below_drewN | with_reducible apply below_alloc | with_reducible refine below_set ?_ ?_ _ | (simp only [World.size_alloc, World.heap_drewN]; omega) | (simp; omega))
  have s6 := s5.on (show Below w5.heap.size w5 (((w5.alloc (Obj.cells #[.int .i64 t, .int .i64 r, .bool true, .bool true] 34)).drewN q6).alloc (Obj.cells #[.int .i64 0, .int .i64 0, .int .i64 0, .int .i64 0, .int .i64 0, .int .i64 0, .int .i64 0, .int .i64 0, .int .i64 0, .int .i64 0, .int .i64 0] 24)) by repeat' (first | assumption | with_reducible exact Below.refl _ _ | with_reducible apply Below.drew | with_reducible apply below_drewN | with_reducible apply below_alloc | with_reducible refine below_set ?_ ?_ _ | (simp only [World.size_alloc, World.heap_drewN]; omega) | (simp; omega)))
  clear s5 hB
  generalize (((w5.alloc (Obj.cells #[.int .i64 t, .int .i64 r, .bool true, .bool true] 34)).drewN q6).alloc (Obj.cells #[.int .i64 0, .int .i64 0, .int .i64 0, .int .i64 0, .int .i64 0, .int .i64 0, .int .i64 0, .int .i64 0, .int .i64 0, .int .i64 0, .int .i64 0] 24)) = W0 at hE d0 d1 d2 d3 dz kE s6 ⊢
  go_loopw [121] (fun i wr => ∃ j : Nat, j ≤ 11 ∧ i = .int .i64 j ∧ ∃ q, wr = W0.drewN q) (fun i _ => 11 - (intOf i).toNat)
  case atStart => exact ⟨0, Nat.zero_le _, rfl, 0, rfl⟩
  case round =>
    obtain ⟨j, hj, rfl, q, rfl⟩ := hrel
    by_cases hlt : j < 11
    · obtain ⟨ad, x, had, hbx, hx, hcx⟩ := hE.icell hlt
      injection had with had
      subst had
      obtain rfl : x = 0 := by
        rw [List.getElem?_replicate, if_pos hlt] at hx
        injection hx with hx
        exact hx.symm
      clear hx
      have hcy := hcx
      rw [add_lit0] at hcy
      go_wp2_with fail
      go_roundw
      case rel => exact ⟨j + 1, by omega, by go_num, _, rfl⟩
      case measure => simp [intOf]; omega
    · obtain rfl : j = 11 := by omega
      go_wp2_with fail
      refine (CT.out _).mono ?_
      rintro e w' ⟨rfl, q7, rfl⟩
      have hor : (k : Int) < o ∨ (¬ (k : Int) < o ∧ bk = false) ∨ (¬ (k : Int) < o ∧ bk = true ∧ bo = true) := by
        by_cases h1 : (k : Int) < o
        · exact .inl h1
        · cases hb : bk
          · exact .inr (.inl ⟨h1, rfl⟩)
          · exact .inr (.inr ⟨h1, rfl, HMORE.out (by omega) hb⟩)
      have hsh : wrap64 ((2 : Int) ^ k) = (F : Int) := by
        rw [show (2 : Int) ^ k = (F : Int) by rw [← HF.out, Int.natCast_pow]; rfl]
        unfold wrap64; omega
      rcases hor with h1 | ⟨h1, rfl⟩ | ⟨h1, rfl, rfl⟩
      · go_wp2_with fail
        refine (CN.out _ _ _ (s6.on (show Below W0.heap.size W0 (W0.drewN (q + q7)) by repeat' (first | assumption | with_reducible exact Below.refl _ _ | with_reducible apply Below.drew | with_reducible apply below_drewN | with_reducible apply below_alloc | with_reducible refine below_set ?_ ?_ _ | (simp only [World.size_alloc, World.heap_drewN]; omega) | (simp; omega))))).mono ?_
        rintro e w8 ⟨rfl, b8⟩
        go_wp2_with fail
        go_ret
        exact ⟨rfl, below_on (show Below w.heap.size w (W0.drewN (q + q7)) by repeat' (first | assumption | with_reducible exact Below.refl _ _ | with_reducible apply Below.drew | with_reducible apply below_drewN | with_reducible apply below_alloc | with_reducible refine below_set ?_ ?_ _ | (simp only [World.size_alloc, World.heap_drewN]; omega) | (simp; omega))) b8⟩
      · go_wp2_with fail
        refine (CN.out _ _ _ (s6.on (show Below W0.heap.size W0 (W0.drewN (q + q7)) by repeat' (first | assumption | with_reducible exact Below.refl _ _ | with_reducible apply Below.drew | with_reducible apply below_drewN | with_reducible apply below_alloc | with_reducible refine below_set ?_ ?_ _ | (simp only [World.size_alloc, World.heap_drewN]; omega) | (simp; omega))))).mono ?_
        rintro e w8 ⟨rfl, b8⟩
        go_wp2_with fail
        go_ret
        exact ⟨rfl, below_on (show Below w.heap.size w (W0.drewN (q + q7)) by repeat' (first | assumption | with_reducible exact Below.refl _ _ | with_reducible apply Below.drew | with_reducible apply below_drewN | with_reducible apply below_alloc | with_reducible refine below_set ?_ ?_ _ | (simp only [World.size_alloc, World.heap_drewN]; omega) | (simp; omega))) b8⟩
      · go_wp2_with fail
        refine (CN.out _ _ _ (s6.on (show Below W0.heap.size W0 (W0.drewN (q + q7)) by repeat' (first | assumption | with_reducible exact Below.refl _ _ | with_reducible apply Below.drew | with_reducible apply below_drewN | with_reducible apply below_alloc | with_reducible refine below_set ?_ ?_ _ | (simp only [World.size_alloc, World.heap_drewN]; omega) | (simp; omega))))).mono ?_
        rintro e w8 ⟨rfl, b8⟩
        go_wp2_with fail
        go_ret
        exact ⟨rfl, below_on (show Below w.heap.size w (W0.drewN (q + q7)) by repeat' (first | assumption | with_reducible exact Below.refl _ _ | with_reducible apply Below.drew | with_reducible apply below_drewN | with_reducible apply below_alloc | with_reducible refine below_set ?_ ?_ _ | (simp only [World.size_alloc, World.heap_drewN]; omega) | (simp; omega))) b8⟩
end Go.Proofs.YtkliebhpdcjdgaaDoor
