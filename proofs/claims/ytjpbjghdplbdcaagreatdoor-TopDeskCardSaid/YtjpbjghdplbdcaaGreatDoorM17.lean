/- Proves the parts of the claim that its last text joins: Mark2, PairDel, SetP, Set. Conditions: those that each theorem names. -/
import Derived.Test.YtjpbjghdplbdcaaGreatDoorM16
import Derived.Test.YtjpbjghdplbdcaaGreatDoorProg
import Derived.Test.YtjpbjghdplbdcaaGreatDoorM10
import Derived.Test.YtjpbjghdplbdcaaGreatDoorM11
import Derived.Test.YtjpbjghdplbdcaaGreatDoorM01
import Derived.Test.YtjpbjghdplbdcaaGreatDoorM14
import Derived.WalkKit
import Derived.WalkSpells
import Derived.Lib.SliceRun
import Derived.Deep.QuietTactic
import Derived.BigQuiet
section
namespace Go.Proofs.YtjpbjghdplbdcaaGreatDoor
open Go.RowKit Go.Shelf
section
variable {A : Option Addr} {n c : Nat} {ps : List Pr} {w : World}
set_option maxRecDepth 20000 in
set_option maxHeartbeats 3200000 in
theorem smark_ok (h : Sp2 w A n c ps) (hf : Fit ps) (hE : prErr n ps = 0) :
    Calls Tryz.prog 109 #[.slice A n c] w fun e w' => e = .returned (.tuple #[mkA (mkRes n ps), .int .i64 (mkErr n ps)]) ∧ Below w.heap.size w w' := by
  have hm := h.len_max
  have HL := hide h.slen
  have HF := hide hf
  have b0 := Blk.new w 111 (mkV noMk).toArray
  have hb0 : Below w.heap.size w (w.alloc (.cells (mkV noMk).toArray 111)) := by repeat' (first | assumption | with_reducible exact Below.refl _ _ | with_reducible apply Below.drew | with_reducible apply below_drewN | with_reducible apply below_alloc | with_reducible refine below_set ?_ ?_ _ | (simp only [World.size_alloc, World.heap_drewN]; omega) | (simp; omega))
  have HC := hide (scheck_any (h.on hb0) hf)
  rw [hE] at HC
  clear hE hf
  go_enter Tryz.func109, Tryz.ntmps109
  go_wp2_with fail
  refine HC.out.mono ?_
  rintro e w1 ⟨rfl, bel⟩
  have br0 := (b0.below bel b0.lt).alloc (.cells (mkV noMk).toArray 111)
  have bm0 := Blk.new w1 111 (mkV noMk).toArray
  have hb1 : Below w.heap.size w (w1.alloc (.cells (mkV noMk).toArray 111)) := below_alloc (below_on hb0 bel) _
  obtain ⟨mb, hmb⟩ : ∃ mb, w1.heap.size = mb := ⟨_, rfl⟩
  have hmw : w.heap.size < mb := by rw [← hmb]; exact (b0.below bel b0.lt).lt
  rw [hmb] at bm0
  clear b0 hb0 bel
  go_wp2_with fail
  go_loopw [17] (fun i wr => ∃ k : Nat, k ≤ n ∧ i = .int .i64 k ∧ pAll ps k = true ∧ Blk wr w.heap.size 111 (mkV noMk).toArray ∧ Blk wr mb 111 (mkV (mkTo ps k)).toArray ∧ Below w.heap.size w wr) (fun i _ => n - (intOf i).toNat)
  case atStart => exact ⟨0, by omega, rfl, rfl, br0, bm0, hb1⟩
  case round =>
    clear br0 bm0 hb1
    obtain ⟨k, hk, rfl, hx, hbr, hbm, hbb⟩ := hrel
    have HX := hide hx
    clear hx
    have r0 : wr.cell? ⟨w.heap.size, 0, none⟩ = some (.int .i64 0) := hbr.at_ (i := 0) rfl
    have r1 : wr.cell? ⟨w.heap.size, 1, none⟩ = some (.int .i64 0) := hbr.at_ (i := 1) rfl
    have r2 : wr.cell? ⟨w.heap.size, 2, none⟩ = some (.bool false) := hbr.at_ (i := 2) rfl
    have r3 : wr.cell? ⟨w.heap.size, 3, none⟩ = some (.bool false) := hbr.at_ (i := 3) rfl
    by_cases hlt : k < n
    · obtain ⟨ad, p, rfl, hbk, hp, hc0, hc1⟩ := (h.below hbb).scell hlt
      have hpm := HF.out p (List.mem_of_getElem? hp)
      have HP := hide hp
      obtain ⟨g, hg⟩ : ∃ g, wr.heap.size = g := ⟨_, rfl⟩
      have hgm : mb < g := by rw [← hg]; exact hbm.lt
      obtain ⟨M, hM⟩ : ∃ M, mkTo ps k = M := ⟨_, rfl⟩
      have hge := mkTo_ge k HX.out
      rw [hM] at hbm hge
      have HM := hide hM
      obtain ⟨a, b, x, y⟩ := M
      clear hp hM
      obtain ⟨ga, gb⟩ := hge
      dsimp only at ga gb
      have bp := Blk.new wr 171 #[.string p.1, .string p.2]
      rw [hg] at bp
      have bm1 := hbm.alloc (.cells #[.string p.1, .string p.2] 171)
      have br1 := hbr.alloc (.cells #[.string p.1, .string p.2] 171)
      have hb1 : Below w.heap.size w (wr.alloc (.cells #[.string p.1, .string p.2] 171)) := below_alloc hbb _
      by_cases eth : p.1 = thName
      · have t1 : (p.1.toList == [116, 104]) = true := is_text eth
        have t2 : (p.1.toList == [114, 118]) = false := not_text (fun e => names_differ (eth.symm.trans e))
        have HC := hide (show ∀ w, Calls Tryz.prog 175 #[.string p.2] w fun e w' => e = .returned (.tuple #[.int .i64 (thV (bl p.2)), .int .i64 (thE (bl p.2))]) ∧ Below w.heap.size w w' from fun w => (pth_any (l := bl p.2) (by simpa [bl] using hpm.2) w).mono (by rintro e w' ⟨h, rfl⟩; exact ⟨h, Below.refl _ _⟩))
        cases hok : thOk (bl p.2)
        · obtain ⟨e1, e2⟩ := mk_bad HP.out hlt (by rw [pOk_th eth]; exact hok)
          rw [(thV_no hok).1, (thV_no hok).2.1] at HC
          have E1 := hide e1
          have E2 := hide e2
          clear hok e1 e2 eth r0 r1 r2 r3
          go_wp2_with fail
          refine (HC.out _).mono ?_
          rintro e w2 ⟨rfl, bel⟩
          have bm2 := bm1.below bel bm1.lt
          have br2 := br1.below bel br1.lt
          have bp2 := bp.below bel bp.lt
          have hb2 := below_on hb1 bel
          have q0 := bp2.at_ (i := 0) (u := .string p.1) rfl
          have m0 := bm2.at_ (i := 0) (u := .int .i64 a) rfl
          have m1 := bm2.at_ (i := 1) (u := .int .i64 b) rfl
          have m2 := bm2.at_ (i := 2) (u := .bool x) rfl
          have m3 := bm2.at_ (i := 3) (u := .bool y) rfl
          have f0 := bm2.free 0
          have f1 := bm2.free 1
          have f2 := bm2.free 2
          have f3 := bm2.free 3
          have r0 := br2.at_ (i := 0) (u := .int .i64 0) rfl
          have r1 := br2.at_ (i := 1) (u := .int .i64 0) rfl
          have r2 := br2.at_ (i := 2) (u := .bool false) rfl
          have r3 := br2.at_ (i := 3) (u := .bool false) rfl
          have rf0 := br2.free 0
          have rf1 := br2.free 1
          have rf2 := br2.free 2
          have rf3 := br2.free 3
          clear bm1 br1 bp hb1
          go_wp2_with fail
          clear r0 r1 r2 r3 rf0 rf1 rf2 rf3 f0 f1 f2 f3 m0 m1 m2 m3 q0 bm2 bp2
          have bf : Blk ((((((w2.setCell ⟨mb, 0, none⟩ (.int .i64 0)).setCell ⟨mb, 2, none⟩ (.bool true)).setCell ⟨w.heap.size, 0, none⟩ (.int .i64 0)).setCell ⟨w.heap.size, 1, none⟩ (.int .i64 0)).setCell ⟨w.heap.size, 2, none⟩ (.bool false)).setCell ⟨w.heap.size, 3, none⟩ (.bool false)) w.heap.size 111 (mkV noMk).toArray := ((((((br2.far (p := ⟨mb, 0, none⟩) (by dsimp only; omega) _).far (p := ⟨mb, 2, none⟩) (by dsimp only; omega) _).set 0 (.int .i64 0)).set 1 (.int .i64 0)).set 2 (.bool false)).set 3 (.bool false))
          have hbf : Below w.heap.size w ((((((w2.setCell ⟨mb, 0, none⟩ (.int .i64 0)).setCell ⟨mb, 2, none⟩ (.bool true)).setCell ⟨w.heap.size, 0, none⟩ (.int .i64 0)).setCell ⟨w.heap.size, 1, none⟩ (.int .i64 0)).setCell ⟨w.heap.size, 2, none⟩ (.bool false)).setCell ⟨w.heap.size, 3, none⟩ (.bool false)) := below_set (below_set (below_set (below_set (below_set (below_set hb2 (by dsimp only; omega) _) (by dsimp only; omega) _) (Nat.le_refl _) _) (Nat.le_refl _) _) (Nat.le_refl _) _) (Nat.le_refl _) _
          generalize ((((((w2.setCell ⟨mb, 0, none⟩ (.int .i64 0)).setCell ⟨mb, 2, none⟩ (.bool true)).setCell ⟨w.heap.size, 0, none⟩ (.int .i64 0)).setCell ⟨w.heap.size, 1, none⟩ (.int .i64 0)).setCell ⟨w.heap.size, 2, none⟩ (.bool false)).setCell ⟨w.heap.size, 3, none⟩ (.bool false)) = wf at bf hbf ⊢
          have z0 := bf.at_ (i := 0) (u := .int .i64 0) rfl
          have z1 := bf.at_ (i := 1) (u := .int .i64 0) rfl
          have z2 := bf.at_ (i := 2) (u := .bool false) rfl
          have z3 := bf.at_ (i := 3) (u := .bool false) rfl
          exact bodyPost_ret (v := .tuple #[.agg #[.int .i64 0, .int .i64 0, .bool false, .bool false], .int .i64 3]) (by simp [results, Tryz.results109, go_sem, z0, z1, z2, z3]) rfl ⟨by rw [E1.out, E2.out]; rfl, hbf⟩
        · obtain ⟨T, hT⟩ : ∃ T, thR (bl p.2) = T := ⟨_, rfl⟩
          have hT0 : 0 ≤ T := by rw [← hT]; exact thR_ge hok
          have HN := hide (mkTo_next HP.out)
          rw [HM.out, step_th eth, hT] at HN
          have HA := hide (pAll_next HP.out HX.out (by rw [pOk_th eth]; exact hok))
          rw [(thV_yes hok).1, (thV_yes hok).2.1, ← (thV_yes hok).2.2, hT] at HC
          clear hok hT eth r0 r1 r2 r3
          go_wp2_with fail
          refine (HC.out _).mono ?_
          rintro e w2 ⟨rfl, bel⟩
          have bm2 := bm1.below bel bm1.lt
          have br2 := br1.below bel br1.lt
          have bp2 := bp.below bel bp.lt
          have hb2 := below_on hb1 bel
          have q0 := bp2.at_ (i := 0) (u := .string p.1) rfl
          have m0 := bm2.at_ (i := 0) (u := .int .i64 a) rfl
          have m1 := bm2.at_ (i := 1) (u := .int .i64 b) rfl
          have m2 := bm2.at_ (i := 2) (u := .bool x) rfl
          have m3 := bm2.at_ (i := 3) (u := .bool y) rfl
          have f0 := bm2.free 0
          have f2 := bm2.free 2
          clear bm1 br1 bp hb1
          go_wp2_with fail
          exact ⟨⟨k + 1, by omega, by go_num, HA.out, (br2.far (p := ⟨mb, 0, none⟩) (by dsimp only; omega) _).far (p := ⟨mb, 2, none⟩) (by dsimp only; omega) _, by rw [HN.out]; exact (bm2.set 0 _).set 2 _, below_set (below_set hb2 (by dsimp only; omega) _) (by dsimp only; omega) _⟩, by simp [intOf]; omega⟩
      · by_cases erv : p.1 = rvName
        · have t1 : (p.1.toList == [116, 104]) = false := not_text eth
          have t2 : (p.1.toList == [114, 118]) = true := is_text erv
          have HC := hide (show ∀ w, Calls Tryz.prog 176 #[.string p.2] w fun e w' => e = .returned (.tuple #[.int .i64 (rvV (bl p.2)), .int .i64 (rvE (bl p.2))]) ∧ Below w.heap.size w w' from fun w => (prv_any (l := bl p.2) (by simpa [bl] using hpm.2) w).mono (by rintro e w' ⟨h, rfl⟩; exact ⟨h, Below.refl _ _⟩))
          cases hok : rvOk (bl p.2)
          · obtain ⟨e1, e2⟩ := mk_bad HP.out hlt (by rw [pOk_rv erv]; exact hok)
            rw [(rvV_no hok).1, (rvV_no hok).2.1] at HC
            have E1 := hide e1
            have E2 := hide e2
            clear hok e1 e2 eth erv r0 r1 r2 r3
            go_wp2_with fail
            refine (HC.out _).mono ?_
            rintro e w2 ⟨rfl, bel⟩
            have bm2 := bm1.below bel bm1.lt
            have br2 := br1.below bel br1.lt
            have bp2 := bp.below bel bp.lt
            have hb2 := below_on hb1 bel
            have q0 := bp2.at_ (i := 0) (u := .string p.1) rfl
            have m0 := bm2.at_ (i := 0) (u := .int .i64 a) rfl
            have m1 := bm2.at_ (i := 1) (u := .int .i64 b) rfl
            have m2 := bm2.at_ (i := 2) (u := .bool x) rfl
            have m3 := bm2.at_ (i := 3) (u := .bool y) rfl
            have f0 := bm2.free 0
            have f1 := bm2.free 1
            have f2 := bm2.free 2
            have f3 := bm2.free 3
            have r0 := br2.at_ (i := 0) (u := .int .i64 0) rfl
            have r1 := br2.at_ (i := 1) (u := .int .i64 0) rfl
            have r2 := br2.at_ (i := 2) (u := .bool false) rfl
            have r3 := br2.at_ (i := 3) (u := .bool false) rfl
            have rf0 := br2.free 0
            have rf1 := br2.free 1
            have rf2 := br2.free 2
            have rf3 := br2.free 3
            clear bm1 br1 bp hb1
            go_wp2_with fail
            clear r0 r1 r2 r3 rf0 rf1 rf2 rf3 f0 f1 f2 f3 m0 m1 m2 m3 q0 bm2 bp2
            have bf : Blk ((((((w2.setCell ⟨mb, 1, none⟩ (.int .i64 0)).setCell ⟨mb, 3, none⟩ (.bool true)).setCell ⟨w.heap.size, 0, none⟩ (.int .i64 0)).setCell ⟨w.heap.size, 1, none⟩ (.int .i64 0)).setCell ⟨w.heap.size, 2, none⟩ (.bool false)).setCell ⟨w.heap.size, 3, none⟩ (.bool false)) w.heap.size 111 (mkV noMk).toArray := ((((((br2.far (p := ⟨mb, 1, none⟩) (by dsimp only; omega) _).far (p := ⟨mb, 3, none⟩) (by dsimp only; omega) _).set 0 (.int .i64 0)).set 1 (.int .i64 0)).set 2 (.bool false)).set 3 (.bool false))
            have hbf : Below w.heap.size w ((((((w2.setCell ⟨mb, 1, none⟩ (.int .i64 0)).setCell ⟨mb, 3, none⟩ (.bool true)).setCell ⟨w.heap.size, 0, none⟩ (.int .i64 0)).setCell ⟨w.heap.size, 1, none⟩ (.int .i64 0)).setCell ⟨w.heap.size, 2, none⟩ (.bool false)).setCell ⟨w.heap.size, 3, none⟩ (.bool false)) := below_set (below_set (below_set (below_set (below_set (below_set hb2 (by dsimp only; omega) _) (by dsimp only; omega) _) (Nat.le_refl _) _) (Nat.le_refl _) _) (Nat.le_refl _) _) (Nat.le_refl _) _
            generalize ((((((w2.setCell ⟨mb, 1, none⟩ (.int .i64 0)).setCell ⟨mb, 3, none⟩ (.bool true)).setCell ⟨w.heap.size, 0, none⟩ (.int .i64 0)).setCell ⟨w.heap.size, 1, none⟩ (.int .i64 0)).setCell ⟨w.heap.size, 2, none⟩ (.bool false)).setCell ⟨w.heap.size, 3, none⟩ (.bool false)) = wf at bf hbf ⊢
            have z0 := bf.at_ (i := 0) (u := .int .i64 0) rfl
            have z1 := bf.at_ (i := 1) (u := .int .i64 0) rfl
            have z2 := bf.at_ (i := 2) (u := .bool false) rfl
            have z3 := bf.at_ (i := 3) (u := .bool false) rfl
            exact bodyPost_ret (v := .tuple #[.agg #[.int .i64 0, .int .i64 0, .bool false, .bool false], .int .i64 3]) (by simp [results, Tryz.results109, go_sem, z0, z1, z2, z3]) rfl ⟨by rw [E1.out, E2.out]; rfl, hbf⟩
          · obtain ⟨T, hT⟩ : ∃ T, rvR (bl p.2) = T := ⟨_, rfl⟩
            have hT0 : 0 ≤ T := by rw [← hT]; exact rvR_ge hok
            have HN := hide (mkTo_next HP.out)
            rw [HM.out, step_rv erv, hT] at HN
            have HA := hide (pAll_next HP.out HX.out (by rw [pOk_rv erv]; exact hok))
            rw [(rvV_yes hok).1, (rvV_yes hok).2.1, ← (rvV_yes hok).2.2, hT] at HC
            clear hok hT eth erv r0 r1 r2 r3
            go_wp2_with fail
            refine (HC.out _).mono ?_
            rintro e w2 ⟨rfl, bel⟩
            have bm2 := bm1.below bel bm1.lt
            have br2 := br1.below bel br1.lt
            have bp2 := bp.below bel bp.lt
            have hb2 := below_on hb1 bel
            have q0 := bp2.at_ (i := 0) (u := .string p.1) rfl
            have m0 := bm2.at_ (i := 0) (u := .int .i64 a) rfl
            have m1 := bm2.at_ (i := 1) (u := .int .i64 b) rfl
            have m2 := bm2.at_ (i := 2) (u := .bool x) rfl
            have m3 := bm2.at_ (i := 3) (u := .bool y) rfl
            have f0 := bm2.free 1
            have f2 := bm2.free 3
            clear bm1 br1 bp hb1
            go_wp2_with fail
            exact ⟨⟨k + 1, by omega, by go_num, HA.out, (br2.far (p := ⟨mb, 1, none⟩) (by dsimp only; omega) _).far (p := ⟨mb, 3, none⟩) (by dsimp only; omega) _, by rw [HN.out]; exact (bm2.set 1 _).set 3 _, below_set (below_set hb2 (by dsimp only; omega) _) (by dsimp only; omega) _⟩, by simp [intOf]; omega⟩
        · have t1 : (p.1.toList == [116, 104]) = false := not_text eth
          have t2 : (p.1.toList == [114, 118]) = false := not_text erv
          have HN := hide (mkTo_next HP.out)
          rw [HM.out, step_other eth erv] at HN
          have HA := hide (pAll_next HP.out HX.out (pOk_other eth erv))
          have q0 := bp.at_ (i := 0) rfl
          have m0 := bm1.at_ (i := 0) (u := .int .i64 a) rfl
          have m1 := bm1.at_ (i := 1) (u := .int .i64 b) rfl
          clear eth erv r0 r1 r2 r3
          go_wp2_with fail
          exact ⟨⟨k + 1, by omega, by go_num, HA.out, br1, by rw [HN.out]; exact bm1, hb1⟩, by simp [intOf]; omega⟩
    · obtain rfl : k = n := by omega
      obtain ⟨e1, e2⟩ := mk_all HX.out
      obtain ⟨M, hM⟩ : ∃ M, mkTo ps k = M := ⟨_, rfl⟩
      rw [hM] at hbm e1
      have E1 := hide e1
      have E2 := hide e2
      obtain ⟨a, b, x, y⟩ := M
      have m0 : wr.cell? ⟨mb, 0, none⟩ = some (.int .i64 a) := hbm.at_ (i := 0) rfl
      have m1 : wr.cell? ⟨mb, 1, none⟩ = some (.int .i64 b) := hbm.at_ (i := 1) rfl
      have m2 : wr.cell? ⟨mb, 2, none⟩ = some (.bool x) := hbm.at_ (i := 2) rfl
      have m3 : wr.cell? ⟨mb, 3, none⟩ = some (.bool y) := hbm.at_ (i := 3) rfl
      have f0 := hbr.free 0
      have f1 := hbr.free 1
      have f2 := hbr.free 2
      have f3 := hbr.free 3
      clear hM e1 e2
      go_wp2_with fail
      refine bodyPost_ret (v := .tuple #[.agg #[.int .i64 a, .int .i64 b, .bool x, .bool y], .int .i64 0]) (by simp [results, Tryz.results109, go_sem, r0, r1, r2, r3]) rfl ⟨by rw [E1.out, E2.out]; rfl, ?_⟩
      exact below_set (below_set (below_set (below_set hbb (Nat.le_refl _) _) (Nat.le_refl _) _) (Nat.le_refl _) _) (Nat.le_refl _) _
end
end Go.Proofs.YtjpbjghdplbdcaaGreatDoor
end
section
namespace Go.Proofs.YtjpbjghdplbdcaaGreatDoor
open Go.RowKit
theorem T_pair : ElemT Tryz.prog 107 171 (.agg #[.string ⟨#[]⟩, .string ⟨#[]⟩]) 2 32 := ⟨Tryz.underlying107, by kernel_rfl, rfl, by decide⟩
end Go.Proofs.YtjpbjghdplbdcaaGreatDoor
end
section
namespace Go.Proofs.YtjpbjghdplbdcaaGreatDoor
def drawOk (n : Int) : Bool := decide (0 ≤ n ∧ n ≤ 72057594037927935)
def setE (ps : List Pr) (m : Mk) : Int := if drawOk m.1 && drawOk m.2.1 then (if 40 < (setAll ps m).length then 2 else 0) else 1
theorem setE_large {ps : List Pr} {m : Mk} (h : (drawOk m.1 && drawOk m.2.1) = true) (h2 : 40 < (setAll ps m).length) : setE ps m = 2 := by unfold setE; rw [h, if_pos rfl, if_pos h2]
theorem setE_ok {ps : List Pr} {m : Mk} (h : (drawOk m.1 && drawOk m.2.1) = true) (h2 : ¬ 40 < (setAll ps m).length) : setE ps m = 0 := by unfold setE; rw [h, if_pos rfl, if_neg h2]
theorem isMark_th {p : Pr} (h : p.1 = thName) : isMark p = true := by unfold isMark; rw [decide_eq_true h]; rfl
theorem isMark_rv {p : Pr} (h : p.1 = rvName) : isMark p = true := by unfold isMark; rw [decide_eq_true h, Bool.or_true]
theorem isMark_no {p : Pr} (h : ¬ p.1 = thName) (h2 : ¬ p.1 = rvName) : isMark p = false := by unfold isMark; rw [decide_eq_false h, decide_eq_false h2]; rfl
theorem rest_keep {ps : List Pr} {k : Nat} {p : Pr} (hp : ps[k]? = some p) (h : isMark p = false) : rest (ps.take (k + 1)) = rest (ps.take k) ++ [p] := by
  rw [rest_snoc hp, h]; rfl
theorem rest_skip {ps : List Pr} {k : Nat} {p : Pr} (hp : ps[k]? = some p) (h : isMark p = true) : rest (ps.take (k + 1)) = rest (ps.take k) := by
  rw [rest_snoc hp, h]; simp
theorem rest_all {ps : List Pr} {n : Nat} (h : ps.length = n) : rest (ps.take n) = rest ps := by rw [← h, List.take_length]
theorem rest_take_len (ps : List Pr) (k : Nat) : (rest (ps.take k)).length ≤ k := Nat.le_trans (rest_len _) (by rw [List.length_take]; omega)
end Go.Proofs.YtjpbjghdplbdcaaGreatDoor
end
section
namespace Go.Proofs.YtjpbjghdplbdcaaGreatDoor
open Go.RowKit Go.Shelf
theorem n_of_ok {n : Nat} {ps : List Pr} (h : prErr n ps = 0) : n ≤ 40 := by
  by_cases g : 40 < n
  · rw [prErr_large g] at h; exact absurd h (by decide)
  · omega
def SetRet (w : World) (ps : List Pr) (E : Int) (e : Ending) (w' : World) : Prop :=
  ∃ A n c, e = .returned (.tuple #[.slice A n c, .int .i64 E]) ∧ Sp2 w' A n c ps ∧ Below w.heap.size w w'
theorem setRet_nil {w w' : World} {E : Int} (h : Below w.heap.size w w') : SetRet w [] E (.returned (.tuple #[.slice none 0 0, .int .i64 E])) w' := ⟨none, 0, 0, rfl, Sl.nil _ _ _, h⟩
def setL (ps : List Pr) (m : Mk) (E : Int) : List Pr := if E = 0 then setAll ps m else []
section
variable {A : Option Addr} {n c : Nat} {ps : List Pr} {w : World} {a b : Int} {x y : Bool}
set_option maxRecDepth 20000 in
set_option maxHeartbeats 1600000 in
theorem sset_arg (h : Sp2 w A n c ps) (hf : Fit ps) (hE : prErr n ps = 0) (hd : (isDraw a && isDraw b) = false) :
    Calls Tryz.prog 110 #[.slice A n c, .agg #[.int .i64 a, .int .i64 b, .bool x, .bool y]] w (SetRet w [] 1) := by
  have b0 := Blk.new w 111 (mkV (a, b, x, y)).toArray
  have hb0 : Below w.heap.size w (w.alloc (.cells (mkV (a, b, x, y)).toArray 111)) := by repeat' (first | assumption | with_reducible exact Below.refl _ _ | with_reducible apply Below.drew | with_reducible apply below_drewN | with_reducible apply below_alloc | with_reducible refine below_set ?_ ?_ _ | (simp only [World.size_alloc, World.heap_drewN]; omega) | (simp; omega))
  have HC := hide (scheck_any (h.on hb0) hf)
  rw [hE] at HC
  clear hE
  cases ha : isDraw a
  · have HA := hide ha
    clear hd ha
    go_enter Tryz.func110, Tryz.ntmps110
    go_wp2_with fail
    refine HC.out.mono ?_
    rintro e w1 ⟨rfl, bel⟩
    have b1 := b0.below bel b0.lt
    have m0 := b1.at_ (i := 0) (u := .int .i64 a) rfl
    have m1 := b1.at_ (i := 1) (u := .int .i64 b) rfl
    go_wp2_with fail
    refine (hnum_is HA.out _).mono ?_
    rintro e w2 ⟨rfl, rfl⟩
    go_wp2_with fail
    go_ret2
    exact setRet_nil (below_on hb0 bel)
  · rw [ha, Bool.true_and] at hd
    have HA := hide ha
    have HB := hide hd
    clear hd ha
    go_enter Tryz.func110, Tryz.ntmps110
    go_wp2_with fail
    refine HC.out.mono ?_
    rintro e w1 ⟨rfl, bel⟩
    have b1 := b0.below bel b0.lt
    have m0 := b1.at_ (i := 0) (u := .int .i64 a) rfl
    have m1 := b1.at_ (i := 1) (u := .int .i64 b) rfl
    go_wp2_with fail
    refine (hnum_is HA.out _).mono ?_
    rintro e w2 ⟨rfl, rfl⟩
    go_wp2_with fail
    refine (hnum_is HB.out _).mono ?_
    rintro e w2 ⟨rfl, rfl⟩
    go_wp2_with fail
    go_ret2
    exact setRet_nil (below_on hb0 bel)
end
end Go.Proofs.YtjpbjghdplbdcaaGreatDoor
end
