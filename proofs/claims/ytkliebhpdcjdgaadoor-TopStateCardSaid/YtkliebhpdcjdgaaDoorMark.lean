/-
  culref.Mark: the walk. Conditions: the slice reads as a list of pairs of texts; the texts' lengths.
-/
import Derived.Test.YtkliebhpdcjdgaaDoorState4
import Derived.Test.YtkliebhpdcjdgaaDoorMarkP
import Derived.Test.YtkliebhpdcjdgaaDoorHexa2
import Derived.Test.YtkliebhpdcjdgaaDoorApp
namespace Go.Proofs.YtkliebhpdcjdgaaDoor
open Go.RowKit Go.Shelf

theorem not_text {s : ByteArray} {l : List UInt8} (h : ¬ s = ⟨l.toArray⟩) : (s.toList == l) = false := by
  rw [ByteArray.toList_eq]
  have : ¬ s.data.toList = l := fun e => h (ByteArray.ext (Array.toList_inj.1 (by simpa using e)))
  simpa using this
theorem is_text {s : ByteArray} {l : List UInt8} (h : s = ⟨l.toArray⟩) : (s.toList == l) = true := by
  rw [ByteArray.toList_eq, h]
  simp
def mkV (m : Mk) : List Value := [.int .i64 m.1, .int .i64 m.2.1, .bool m.2.2.1, .bool m.2.2.2]
def mkA (m : Mk) : Value := .agg #[.int .i64 m.1, .int .i64 m.2.1, .bool m.2.2.1, .bool m.2.2.2]
section
variable {A : Option Addr} {n c : Nat} {ps : List Pr} {w : World}
set_option maxRecDepth 20000 in
set_option maxHeartbeats 3200000 in
theorem rmark_any (h : Sp2 w A n c ps) (hf : Fit ps) :
    Calls Tryd.prog 34 #[.slice A n c] w fun e w' => e = .returned (.tuple #[mkA (mkRes n ps), .int .i64 (mkErr n ps)]) ∧ Below w.heap.size w w' := by
  have hm := h.len_max
  have HL := hide h.slen
  have HF := hide hf
  clear hf
  go_enter Tryd.func34, Tryd.ntmps34
  go_wp2_with fail
  have br0 : Blk ((w.alloc (.cells (mkV noMk).toArray 34)).alloc (.cells (mkV noMk).toArray 34)) w.heap.size 34 (mkV noMk).toArray := (Blk.new w _ _).alloc _
  have bm0 : Blk ((w.alloc (.cells (mkV noMk).toArray 34)).alloc (.cells (mkV noMk).toArray 34)) (w.heap.size + 1) 34 (mkV noMk).toArray := by
    have := Blk.new (w.alloc (.cells (mkV noMk).toArray 34)) 34 (mkV noMk).toArray
    rwa [World.size_alloc] at this
  have hb0 : Below w.heap.size w ((w.alloc (.cells (mkV noMk).toArray 34)).alloc (.cells (mkV noMk).toArray 34)) := by repeat' (first | assumption | with_reducible exact Below.refl _ _ | with_reducible apply Below.drew | with_reducible apply below_drewN | with_reducible apply below_alloc | with_reducible refine below_set ?_ ?_ _ | (simp only [World.size_alloc, World.heap_drewN]; omega) | (simp; omega))
  go_loopw [9] (fun i wr => ∃ k : Nat, k ≤ n ∧ i = .int .i64 k ∧ pAll ps k = true ∧ Blk wr w.heap.size 34 (mkV noMk).toArray ∧ Blk wr (w.heap.size + 1) 34 (mkV (mkTo ps k)).toArray ∧ Below w.heap.size w wr) (fun i _ => n - (intOf i).toNat)
  case atStart => exact ⟨0, by omega, rfl, rfl, br0, bm0, hb0⟩
  case round =>
    clear br0 bm0 hb0
    obtain ⟨k, hk, rfl, hx, hbr, hbm, hbb⟩ := hrel
    have HX := hide hx
    clear hx
    have r0 : wr.cell? ⟨w.heap.size, 0, none⟩ = some (.int .i64 0) := hbr.at_ (i := 0) rfl
    have r1 : wr.cell? ⟨w.heap.size, 1, none⟩ = some (.int .i64 0) := hbr.at_ (i := 1) rfl
    have r2 : wr.cell? ⟨w.heap.size, 2, none⟩ = some (.bool false) := hbr.at_ (i := 2) rfl
    have r3 : wr.cell? ⟨w.heap.size, 3, none⟩ = some (.bool false) := hbr.at_ (i := 3) rfl
    by_cases hlt : k < n
    · obtain ⟨ad, p, rfl, hbk, hp, hc0, hc1⟩ := (h.below hbb).scell hlt
      have hpm := HF.out p (List.mem_of_getElem? hp)
      have HP := hide hp
      obtain ⟨g, hg⟩ : ∃ g, wr.heap.size = g := ⟨_, rfl⟩
      have hgm : w.heap.size + 1 < g := by rw [← hg]; exact hbm.lt
      obtain ⟨M, hM⟩ : ∃ M, mkTo ps k = M := ⟨_, rfl⟩
      have hge := mkTo_ge k HX.out
      rw [hM] at hbm hge
      have HM := hide hM
      obtain ⟨a, b, x, y⟩ := M
      clear hp hM
      obtain ⟨ga, gb⟩ := hge
      dsimp only at ga gb
      have bp := Blk.new wr 45 #[.string p.1, .string p.2]
      rw [hg] at bp
      have bm1 := hbm.alloc (.cells #[.string p.1, .string p.2] 45)
      have br1 := hbr.alloc (.cells #[.string p.1, .string p.2] 45)
      have hb1 : Below w.heap.size w (wr.alloc (.cells #[.string p.1, .string p.2] 45)) := below_alloc hbb _
      by_cases eth : p.1 = thName
      · have t1 : (p.1.toList == [116, 104]) = true := is_text eth
        have t2 : (p.1.toList == [114, 118]) = false := not_text (fun e => names_differ (eth.symm.trans e))
        have HC := hide (show ∀ w, Calls Tryd.prog 25 #[.string p.2] w fun e w' => e = .returned (.int .i64 (thR (bl p.2))) ∧ Below w.heap.size w w' from fun w => rpth_any (l := bl p.2) (by simpa [bl] using hpm.2) w)
        cases hok : thOk (bl p.2)
        · obtain ⟨e1, e2⟩ := mk_bad HP.out hlt (by rw [pOk_th eth]; exact hok)
          rw [thR_neg hok] at HC
          have E1 := hide e1
          have E2 := hide e2
          clear hok e1 e2 eth r0 r1 r2 r3
          go_wp2_with fail
          refine (HC.out _).mono ?_
          rintro e w2 ⟨rfl, bel⟩
          have bm2 := bm1.below bel bm1.lt
          have br2 := br1.below bel br1.lt
          have bp2 := bp.below bel bp.lt
          have hb2 := below_on hb1 bel
          have q0 := bp2.at_ (i := 0) (u := .string p.1) rfl
          have m0 := bm2.at_ (i := 0) (u := .int .i64 a) rfl
          have m1 := bm2.at_ (i := 1) (u := .int .i64 b) rfl
          have m2 := bm2.at_ (i := 2) (u := .bool x) rfl
          have m3 := bm2.at_ (i := 3) (u := .bool y) rfl
          have f0 := bm2.free 0
          have f1 := bm2.free 1
          have f2 := bm2.free 2
          have f3 := bm2.free 3
          have r0 := br2.at_ (i := 0) (u := .int .i64 0) rfl
          have r1 := br2.at_ (i := 1) (u := .int .i64 0) rfl
          have r2 := br2.at_ (i := 2) (u := .bool false) rfl
          have r3 := br2.at_ (i := 3) (u := .bool false) rfl
          have rf0 := br2.free 0
          have rf1 := br2.free 1
          have rf2 := br2.free 2
          have rf3 := br2.free 3
          clear bm1 br1 bp hb1
          go_wp2_with fail
          clear r0 r1 r2 r3 rf0 rf1 rf2 rf3 f0 f1 f2 f3 m0 m1 m2 m3 q0 bm2 bp2
          have bf : Blk ((((((w2.setCell ⟨w.heap.size + 1, 0, none⟩ (.int .i64 (-1))).setCell ⟨w.heap.size + 1, 2, none⟩ (.bool true)).setCell ⟨w.heap.size, 0, none⟩ (.int .i64 0)).setCell ⟨w.heap.size, 1, none⟩ (.int .i64 0)).setCell ⟨w.heap.size, 2, none⟩ (.bool false)).setCell ⟨w.heap.size, 3, none⟩ (.bool false)) w.heap.size 34 (mkV noMk).toArray := ((((((br2.far (p := ⟨w.heap.size + 1, 0, none⟩) (by dsimp only; omega) _).far (p := ⟨w.heap.size + 1, 2, none⟩) (by dsimp only; omega) _).set 0 (.int .i64 0)).set 1 (.int .i64 0)).set 2 (.bool false)).set 3 (.bool false))
          have hbf : Below w.heap.size w ((((((w2.setCell ⟨w.heap.size + 1, 0, none⟩ (.int .i64 (-1))).setCell ⟨w.heap.size + 1, 2, none⟩ (.bool true)).setCell ⟨w.heap.size, 0, none⟩ (.int .i64 0)).setCell ⟨w.heap.size, 1, none⟩ (.int .i64 0)).setCell ⟨w.heap.size, 2, none⟩ (.bool false)).setCell ⟨w.heap.size, 3, none⟩ (.bool false)) := below_set (below_set (below_set (below_set (below_set (below_set hb2 (by dsimp only; omega) _) (by dsimp only; omega) _) (Nat.le_refl _) _) (Nat.le_refl _) _) (Nat.le_refl _) _) (Nat.le_refl _) _
          generalize ((((((w2.setCell ⟨w.heap.size + 1, 0, none⟩ (.int .i64 (-1))).setCell ⟨w.heap.size + 1, 2, none⟩ (.bool true)).setCell ⟨w.heap.size, 0, none⟩ (.int .i64 0)).setCell ⟨w.heap.size, 1, none⟩ (.int .i64 0)).setCell ⟨w.heap.size, 2, none⟩ (.bool false)).setCell ⟨w.heap.size, 3, none⟩ (.bool false)) = wf at bf hbf ⊢
          have z0 := bf.at_ (i := 0) (u := .int .i64 0) rfl
          have z1 := bf.at_ (i := 1) (u := .int .i64 0) rfl
          have z2 := bf.at_ (i := 2) (u := .bool false) rfl
          have z3 := bf.at_ (i := 3) (u := .bool false) rfl
          exact bodyPost_ret (v := .tuple #[.agg #[.int .i64 0, .int .i64 0, .bool false, .bool false], .int .i64 3]) (by simp [results, Tryd.results34, go_sem, z0, z1, z2, z3]) rfl ⟨by rw [E1.out, E2.out]; rfl, hbf⟩
        · obtain ⟨T, hT⟩ : ∃ T, thR (bl p.2) = T := ⟨_, rfl⟩
          have hT0 : 0 ≤ T := by rw [← hT]; exact thR_ge hok
          have HN := hide (mkTo_next HP.out)
          rw [HM.out, step_th eth, hT] at HN
          have HA := hide (pAll_next HP.out HX.out (by rw [pOk_th eth]; exact hok))
          rw [hT] at HC
          clear hok hT eth r0 r1 r2 r3
          go_wp2_with fail
          refine (HC.out _).mono ?_
          rintro e w2 ⟨rfl, bel⟩
          have bm2 := bm1.below bel bm1.lt
          have br2 := br1.below bel br1.lt
          have bp2 := bp.below bel bp.lt
          have hb2 := below_on hb1 bel
          have q0 := bp2.at_ (i := 0) (u := .string p.1) rfl
          have m0 := bm2.at_ (i := 0) (u := .int .i64 a) rfl
          have m1 := bm2.at_ (i := 1) (u := .int .i64 b) rfl
          have m2 := bm2.at_ (i := 2) (u := .bool x) rfl
          have m3 := bm2.at_ (i := 3) (u := .bool y) rfl
          have f0 := bm2.free 0
          have f2 := bm2.free 2
          clear bm1 br1 bp hb1
          go_wp2_with fail
          exact ⟨⟨k + 1, by omega, by go_num, HA.out, (br2.far (p := ⟨w.heap.size + 1, 0, none⟩) (by dsimp only; omega) _).far (p := ⟨w.heap.size + 1, 2, none⟩) (by dsimp only; omega) _, by rw [HN.out]; exact (bm2.set 0 _).set 2 _, below_set (below_set hb2 (by dsimp only; omega) _) (by dsimp only; omega) _⟩, by simp [intOf]; omega⟩
      · by_cases erv : p.1 = rvName
        · have t1 : (p.1.toList == [116, 104]) = false := not_text eth
          have t2 : (p.1.toList == [114, 118]) = true := is_text erv
          have HC := hide (show ∀ w, Calls Tryd.prog 26 #[.string p.2] w fun e w' => e = .returned (.int .i64 (rvR (bl p.2))) ∧ Below w.heap.size w w' from fun w => rprv_any (l := bl p.2) (by simpa [bl] using hpm.2) w)
          cases hok : rvOk (bl p.2)
          · obtain ⟨e1, e2⟩ := mk_bad HP.out hlt (by rw [pOk_rv erv]; exact hok)
            rw [rvR_neg hok] at HC
            have E1 := hide e1
            have E2 := hide e2
            clear hok e1 e2 eth erv r0 r1 r2 r3
            go_wp2_with fail
            refine (HC.out _).mono ?_
            rintro e w2 ⟨rfl, bel⟩
            have bm2 := bm1.below bel bm1.lt
            have br2 := br1.below bel br1.lt
            have bp2 := bp.below bel bp.lt
            have hb2 := below_on hb1 bel
            have q0 := bp2.at_ (i := 0) (u := .string p.1) rfl
            have m0 := bm2.at_ (i := 0) (u := .int .i64 a) rfl
            have m1 := bm2.at_ (i := 1) (u := .int .i64 b) rfl
            have m2 := bm2.at_ (i := 2) (u := .bool x) rfl
            have m3 := bm2.at_ (i := 3) (u := .bool y) rfl
            have f0 := bm2.free 0
            have f1 := bm2.free 1
            have f2 := bm2.free 2
            have f3 := bm2.free 3
            have r0 := br2.at_ (i := 0) (u := .int .i64 0) rfl
            have r1 := br2.at_ (i := 1) (u := .int .i64 0) rfl
            have r2 := br2.at_ (i := 2) (u := .bool false) rfl
            have r3 := br2.at_ (i := 3) (u := .bool false) rfl
            have rf0 := br2.free 0
            have rf1 := br2.free 1
            have rf2 := br2.free 2
            have rf3 := br2.free 3
            clear bm1 br1 bp hb1
            go_wp2_with fail
            clear r0 r1 r2 r3 rf0 rf1 rf2 rf3 f0 f1 f2 f3 m0 m1 m2 m3 q0 bm2 bp2
            have bf : Blk ((((((w2.setCell ⟨w.heap.size + 1, 1, none⟩ (.int .i64 (-1))).setCell ⟨w.heap.size + 1, 3, none⟩ (.bool true)).setCell ⟨w.heap.size, 0, none⟩ (.int .i64 0)).setCell ⟨w.heap.size, 1, none⟩ (.int .i64 0)).setCell ⟨w.heap.size, 2, none⟩ (.bool false)).setCell ⟨w.heap.size, 3, none⟩ (.bool false)) w.heap.size 34 (mkV noMk).toArray := ((((((br2.far (p := ⟨w.heap.size + 1, 1, none⟩) (by dsimp only; omega) _).far (p := ⟨w.heap.size + 1, 3, none⟩) (by dsimp only; omega) _).set 0 (.int .i64 0)).set 1 (.int .i64 0)).set 2 (.bool false)).set 3 (.bool false))
            have hbf : Below w.heap.size w ((((((w2.setCell ⟨w.heap.size + 1, 1, none⟩ (.int .i64 (-1))).setCell ⟨w.heap.size + 1, 3, none⟩ (.bool true)).setCell ⟨w.heap.size, 0, none⟩ (.int .i64 0)).setCell ⟨w.heap.size, 1, none⟩ (.int .i64 0)).setCell ⟨w.heap.size, 2, none⟩ (.bool false)).setCell ⟨w.heap.size, 3, none⟩ (.bool false)) := below_set (below_set (below_set (below_set (below_set (below_set hb2 (by dsimp only; omega) _) (by dsimp only; omega) _) (Nat.le_refl _) _) (Nat.le_refl _) _) (Nat.le_refl _) _) (Nat.le_refl _) _
            generalize ((((((w2.setCell ⟨w.heap.size + 1, 1, none⟩ (.int .i64 (-1))).setCell ⟨w.heap.size + 1, 3, none⟩ (.bool true)).setCell ⟨w.heap.size, 0, none⟩ (.int .i64 0)).setCell ⟨w.heap.size, 1, none⟩ (.int .i64 0)).setCell ⟨w.heap.size, 2, none⟩ (.bool false)).setCell ⟨w.heap.size, 3, none⟩ (.bool false)) = wf at bf hbf ⊢
            have z0 := bf.at_ (i := 0) (u := .int .i64 0) rfl
            have z1 := bf.at_ (i := 1) (u := .int .i64 0) rfl
            have z2 := bf.at_ (i := 2) (u := .bool false) rfl
            have z3 := bf.at_ (i := 3) (u := .bool false) rfl
            exact bodyPost_ret (v := .tuple #[.agg #[.int .i64 0, .int .i64 0, .bool false, .bool false], .int .i64 3]) (by simp [results, Tryd.results34, go_sem, z0, z1, z2, z3]) rfl ⟨by rw [E1.out, E2.out]; rfl, hbf⟩
          · obtain ⟨T, hT⟩ : ∃ T, rvR (bl p.2) = T := ⟨_, rfl⟩
            have hT0 : 0 ≤ T := by rw [← hT]; exact rvR_ge hok
            have HN := hide (mkTo_next HP.out)
            rw [HM.out, step_rv erv, hT] at HN
            have HA := hide (pAll_next HP.out HX.out (by rw [pOk_rv erv]; exact hok))
            rw [hT] at HC
            clear hok hT eth erv r0 r1 r2 r3
            go_wp2_with fail
            refine (HC.out _).mono ?_
            rintro e w2 ⟨rfl, bel⟩
            have bm2 := bm1.below bel bm1.lt
            have br2 := br1.below bel br1.lt
            have bp2 := bp.below bel bp.lt
            have hb2 := below_on hb1 bel
            have q0 := bp2.at_ (i := 0) (u := .string p.1) rfl
            have m0 := bm2.at_ (i := 0) (u := .int .i64 a) rfl
            have m1 := bm2.at_ (i := 1) (u := .int .i64 b) rfl
            have m2 := bm2.at_ (i := 2) (u := .bool x) rfl
            have m3 := bm2.at_ (i := 3) (u := .bool y) rfl
            have f0 := bm2.free 1
            have f2 := bm2.free 3
            clear bm1 br1 bp hb1
            go_wp2_with fail
            exact ⟨⟨k + 1, by omega, by go_num, HA.out, (br2.far (p := ⟨w.heap.size + 1, 1, none⟩) (by dsimp only; omega) _).far (p := ⟨w.heap.size + 1, 3, none⟩) (by dsimp only; omega) _, by rw [HN.out]; exact (bm2.set 1 _).set 3 _, below_set (below_set hb2 (by dsimp only; omega) _) (by dsimp only; omega) _⟩, by simp [intOf]; omega⟩
        · have t1 : (p.1.toList == [116, 104]) = false := not_text eth
          have t2 : (p.1.toList == [114, 118]) = false := not_text erv
          have HN := hide (mkTo_next HP.out)
          rw [HM.out, step_other eth erv] at HN
          have HA := hide (pAll_next HP.out HX.out (pOk_other eth erv))
          have q0 := bp.at_ (i := 0) rfl
          have m0 := bm1.at_ (i := 0) (u := .int .i64 a) rfl
          have m1 := bm1.at_ (i := 1) (u := .int .i64 b) rfl
          clear eth erv r0 r1 r2 r3
          go_wp2_with fail
          exact ⟨⟨k + 1, by omega, by go_num, HA.out, br1, by rw [HN.out]; exact bm1, hb1⟩, by simp [intOf]; omega⟩
    · obtain rfl : k = n := by omega
      obtain ⟨e1, e2⟩ := mk_all HX.out
      obtain ⟨M, hM⟩ : ∃ M, mkTo ps k = M := ⟨_, rfl⟩
      rw [hM] at hbm e1
      have E1 := hide e1
      have E2 := hide e2
      obtain ⟨a, b, x, y⟩ := M
      have m0 : wr.cell? ⟨w.heap.size + 1, 0, none⟩ = some (.int .i64 a) := hbm.at_ (i := 0) rfl
      have m1 : wr.cell? ⟨w.heap.size + 1, 1, none⟩ = some (.int .i64 b) := hbm.at_ (i := 1) rfl
      have m2 : wr.cell? ⟨w.heap.size + 1, 2, none⟩ = some (.bool x) := hbm.at_ (i := 2) rfl
      have m3 : wr.cell? ⟨w.heap.size + 1, 3, none⟩ = some (.bool y) := hbm.at_ (i := 3) rfl
      have f0 := hbr.free 0
      have f1 := hbr.free 1
      have f2 := hbr.free 2
      have f3 := hbr.free 3
      clear hM e1 e2
      go_wp2_with fail
      refine bodyPost_ret (v := .tuple #[.agg #[.int .i64 a, .int .i64 b, .bool x, .bool y], .int .i64 0]) (by simp [results, Tryd.results34, go_sem, r0, r1, r2, r3]) rfl ⟨by rw [E1.out, E2.out]; rfl, ?_⟩
      exact below_set (below_set (below_set (below_set hbb (Nat.le_refl _) _) (Nat.le_refl _) _) (Nat.le_refl _) _) (Nat.le_refl _) _
end
end Go.Proofs.YtkliebhpdcjdgaaDoor
