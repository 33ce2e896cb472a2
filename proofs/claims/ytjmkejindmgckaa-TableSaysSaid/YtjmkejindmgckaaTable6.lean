/-
  table.Join of two tables that may be joined: the walk. Conditions: the rows read as lists of numbers.
-/
import Derived.Test.YtjmkejindmgckaaTable5
namespace Go.Proofs.Ytjmkejindmgckaa
open Go.RowKit

section
variable {A A2 : Option Addr} {n c c2 : Nat} {os os2 : List Row} {w : World}
set_option maxRecDepth 100000 in
set_option maxHeartbeats 3200000 in
theorem tjoin_ok {m : Nat} (h : Ss w A n c os) (h2 : Ss w A2 n c2 os2) (he1 : tabErr (m : Int) n (rows os) = 0) (he2 : tabErr (m : Int) n (rows os2) = 0) {b : Bool} (hb : okTab (atOf (rows os2)) (rows os) m n = b) :
    Calls Try.prog 41 #[.agg #[.int .i64 (m : Int), .slice A n c], .agg #[.int .i64 (m : Int), .slice A2 n c2]] w (TabRet w (sumW b m) (sumT b (atOf (rows os2)) (rows os)) (sumE b)) := by
  have hmax := h.s.len_max
  have HE1 := hide he1
  have HE2 := hide he2
  have HK := hide (tabOk_rows h he1)
  have HK2 := hide (tabOk_rows h2 he2)
  have HB := hide hb
  have m1 : 1 ≤ m := by have := HK.out.w1; omega
  have m2 : m ≤ 32 := by have := HK.out.w2; omega
  have n4 := HK.out.n2
  have HRW := hide (rows_uniform h HK.out)
  have HL := hide h.len
  obtain ⟨zss, hzss⟩ : ∃ zss, rows os = zss := ⟨_, rfl⟩
  obtain ⟨yss, hyss⟩ : ∃ yss, rows os2 = yss := ⟨_, rfl⟩
  rw [hyss] at HB HK2
  rw [hzss] at HB HK
  rw [hzss, hyss]
  have HZ := hide hzss
  have HY := hide hyss
  clear he1 he2 hb hzss hyss
  obtain ⟨f, hf⟩ : ∃ f, atOf yss = f := ⟨_, rfl⟩
  rw [hf] at HB ⊢
  have HF := hide hf
  clear hf
  have b2 := (Blk.new ((w.alloc (.cells #[.int .i64 (m : Int), .slice A n c] 65)).alloc (.cells #[.int .i64 (m : Int), .slice A2 n c2] 65)) 65 #[.int .i64 0, .slice none 0 0])
  rw [World.size_alloc, World.size_alloc] at b2
  have b1 := (Blk.new (w.alloc (.cells #[.int .i64 (m : Int), .slice A n c] 65)) 65 #[.int .i64 (m : Int), .slice A2 n c2]).alloc (.cells #[.int .i64 0, .slice none 0 0] 65)
  rw [World.size_alloc] at b1
  have b0 := ((Blk.new w 65 #[.int .i64 (m : Int), .slice A n c]).alloc (.cells #[.int .i64 (m : Int), .slice A2 n c2] 65)).alloc (.cells #[.int .i64 0, .slice none 0 0] 65)
  have HB2 := hide b2
  have HB1 := hide b1
  have HB0 := hide b0
  clear b2 b1 b0
  have tm : ((m : Int) != (m : Int)) = false := by simp
  have tn : ((n : Int) != (n : Int)) = false := by simp
  go_enter Try.func41, Try.ntmps41
  go_wp2_with fail
  refine (tcheck_is (h.on (by repeat' (first | assumption | with_reducible exact Below.refl _ _ | with_reducible apply Below.drew | with_reducible apply below_drewN | with_reducible apply below_alloc | with_reducible refine below_set ?_ ?_ _ | (simp only [World.size_alloc, World.heap_drewN]; omega) | (simp; omega)))) HE1.out).mono ?_
  rintro e w1 ⟨rfl, hb1⟩
  have k1 : Below w.heap.size w w1 := below_on (by repeat' (first | assumption | with_reducible exact Below.refl _ _ | with_reducible apply Below.drew | with_reducible apply below_drewN | with_reducible apply below_alloc | with_reducible refine below_set ?_ ?_ _ | (simp only [World.size_alloc, World.heap_drewN]; omega) | (simp; omega))) hb1
  have bg1 := HB1.out.below hb1 HB1.out.lt
  have bt1 := HB0.out.below hb1 HB0.out.lt
  have br1 := HB2.out.below hb1 HB2.out.lt
  have g0 : w1.cell? ⟨w.heap.size + 1, 0, none⟩ = some (.int .i64 (m : Int)) := bg1.at_ (i := 0) rfl
  have g1 : w1.cell? ⟨w.heap.size + 1, 1, none⟩ = some (.slice A2 n c2) := bg1.at_ (i := 1) rfl
  have z1 := hb1.size
  simp only [World.size_alloc] at z1
  go_wp2_with fail
  refine (tcheck_is (h2.on k1) HE2.out).mono ?_
  rintro e w2 ⟨rfl, hb2⟩
  have k2 := below_on k1 hb2
  have bg2 := bg1.below hb2 bg1.lt
  have bt2 := bt1.below hb2 bt1.lt
  have br2 := br1.below hb2 br1.lt
  have g20 : w2.cell? ⟨w.heap.size + 1, 0, none⟩ = some (.int .i64 (m : Int)) := bg2.at_ (i := 0) rfl
  have g21 : w2.cell? ⟨w.heap.size + 1, 1, none⟩ = some (.slice A2 n c2) := bg2.at_ (i := 1) rfl
  have q20 : w2.cell? ⟨w.heap.size, 0, none⟩ = some (.int .i64 (m : Int)) := bt2.at_ (i := 0) rfl
  have q21 : w2.cell? ⟨w.heap.size, 1, none⟩ = some (.slice A n c) := bt2.at_ (i := 1) rfl
  have z2 := hb2.size
  go_wp2_with fail
  refine (copied_any (h.on k2) n4 (fun o ho => by rw [HRW.out o ho]; exact m2)).mono ?_
  rintro e w3 ⟨A3, c3, o3, rfl, ot3, hro3, hb3⟩
  have k3 := below_on k2 hb3
  have z3 := hb3.size
  have bg3 := bg2.below hb3 bg2.lt
  have br3 := br2.below hb3 br2.lt
  rw [HZ.out, ← addTo_zero f zss] at hro3
  have b9 := (Blk.new w3 65 #[.int .i64 (m : Int), .slice A3 n c3])
  have ot4 := ot3.alloc (.cells #[.int .i64 (m : Int), .slice A3 n c3] 65)
  have bz4 := br3.alloc (.cells #[.int .i64 (m : Int), .slice A3 n c3] 65)
  have bg4 := bg3.alloc (.cells #[.int .i64 (m : Int), .slice A3 n c3] 65)
  have k4 := below_alloc k3 (.cells #[.int .i64 (m : Int), .slice A3 n c3] 65)
  have hB4 : w.heap.size + 1 < w3.heap.size := by omega
  have g30 : w3.cell? ⟨w.heap.size + 1, 1, none⟩ = some (.slice A2 n c2) := bg3.at_ (i := 1) rfl
  have HB9 := hide b9
  have HOT := hide ot4
  have HBZ := hide bz4
  have HBG := hide bg4
  have HK4 := hide k4
  have HRO := hide hro3
  clear g0 g1 g20 g21 q20 q21 b9 ot3 ot4 bz4 bg4 bg3 br3 bg2 bt2 br2 bg1 bt1 br1 k4 hro3 hb3 hb2 hb1 k1 k2
  go_wp2_with fail
  obtain ⟨w4, hw4⟩ : ∃ w4, w3.alloc (.cells #[.int .i64 (m : Int), .slice A3 n c3] 65) = w4 := ⟨_, rfl⟩
  have b9 := HB9.out
  have ot4 := HOT.out
  have bz4 := HBZ.out
  have bg4 := HBG.out
  have k4 := HK4.out
  rw [hw4] at b9 ot4 bz4 bg4 k4 ⊢
  have hB2 : w.heap.size + 1 + 1 < w2.heap.size := by omega
  have hB3 : w.heap.size + 1 + 1 < w3.heap.size := by omega
  clear HB9 HOT HBZ HBG HK4 hw4 HB0 HB1 HB2 g30 k3 z1 z2 z3 tm tn
  go_loopw [45] (fun i wr => ∃ (k : Nat) (o3 : List Row), k ≤ n ∧ i = .int .i64 k ∧ Ot wr w2.heap.size A3 n c3 o3 ∧ rows o3 = addTo f zss k 0 ∧ okTo (okRow f zss m) k = true ∧
    Blk wr w3.heap.size 65 #[.int .i64 (m : Int), .slice A3 n c3] ∧ Blk wr (w.heap.size + 1 + 1) 65 #[.int .i64 0, .slice none 0 0] ∧ Below w.heap.size w wr) (fun i _ => n - (intOf i).toNat)
  case atStart => exact ⟨0, o3, Nat.zero_le _, rfl, ot4, HRO.out, rfl, b9, bz4, k4⟩
  case round =>
    clear b9 ot4 bz4 bg4 k4 HRO
    obtain ⟨k, o3, hk, rfl, ot, hro, hok, b9, bz, kr⟩ := hrel
    have HOK := hide hok
    clear hok
    by_cases hlt : k < n
    · obtain ⟨ad2, ⟨Au, nu, cu, ys⟩, rfl, hbk2, ho2, hc2, hs2⟩ := (h2.on kr).cell hlt
      dsimp only at hc2 hs2
      have hy1 := rows_at ho2
      rw [HY.out] at hy1
      dsimp only at hy1
      have hnu : (ys.length : Int) = m := HK2.out.row k ys hy1
      have hnu2 : nu = m := by have := hs2.ilen; omega
      subst hnu2
      have hkz : k < zss.length := by rw [← HZ.out, rows_len, HL.out]; exact hlt
      obtain ⟨zs0, hz0⟩ : ∃ zs0, zss[k]? = some zs0 := ⟨_, List.getElem?_eq_getElem hkz⟩
      have hzl : zs0.length = nu := by have := HK.out.row k zs0 hz0; omega
      have HZ0 := hide hz0
      have HY1 := hide hy1
      have HZL := hide hzl
      have HS2 := hide (h2.r _ (List.mem_of_getElem? ho2))
      have HOT := hide ot
      have HRO := hide hro
      have HB9 := hide b9
      have HBZ := hide bz
      clear hro hz0 hy1 hnu hkz hzl ho2 ot b9 bz
      go_wp2_with fail
      obtain ⟨wo, rfl⟩ : ∃ wo : World, wo = wr := ⟨_, rfl⟩
      go_loopw [52] (fun j wr => ∃ (l : Nat) (o3 : List Row), l ≤ nu ∧ j = .int .i64 l ∧ Ot wr w2.heap.size A3 n c3 o3 ∧ rows o3 = addTo f zss k l ∧ okTo (okCell f zss k) l = true ∧
        Blk wr w3.heap.size 65 #[.int .i64 (nu : Int), .slice A3 n c3] ∧ Blk wr (w.heap.size + 1 + 1) 65 #[.int .i64 0, .slice none 0 0] ∧ Below w.heap.size w wr) (fun j _ => nu - (intOf j).toNat)
      case atStart => exact ⟨0, o3, Nat.zero_le _, rfl, HOT.out, HRO.out, rfl, HB9.out, HBZ.out, kr⟩
      case round =>
        clear HOT HRO HB9 HBZ kr hs2 hc2
        obtain ⟨l, o3, hl, rfl, ot, hro, hcell, b9, bz, kr⟩ := hrel
        have HCL := hide hcell
        have HRO := hide hro
        clear hcell hro
        by_cases hlt2 : l < nu
        · obtain ⟨ad4, y, rfl, hbk4, hy, hcy⟩ := (HS2.out.on kr).icell hlt2
          obtain ⟨zx, hzx⟩ : ∃ zx, zs0[l]? = some zx := ⟨_, List.getElem?_eq_getElem (by rw [HZL.out]; exact hlt2)⟩
          obtain ⟨zx0, zx1⟩ := HK.out.cnt k zs0 l zx HZ0.out hzx
          obtain ⟨y0, y1⟩ := HK2.out.cnt k ys l y HY1.out hy
          have hfy : f k l = y := by rw [← HF.out, atOf, getD_of HY1.out, getD_of hy]
          obtain ⟨ws, hws, hwx, hwl⟩ := addTo_here (f := f) HZ0.out hzx
          have hadd := addTo_next (f := f) HZ0.out hzx hws
          rw [hfy] at hadd
          have hcok : okCell f zss k l = decide (zx + y ≤ 1000000000000) := by unfold okCell; rw [getD_of HZ0.out, getD_of hzx, hfy]
          obtain ⟨ad, ⟨Ar, nr, cr, vs⟩, rfl, hbk, ho, hc, hs⟩ := (ot.ss).cell hlt
          dsimp only at hc hs
          have hz1 := rows_at ho
          rw [HRO.out, hws] at hz1
          injection hz1 with hz1
          dsimp only at hz1
          subst hz1
          have hnr : nr = nu := by have := hs.ilen; rw [hwl, HZL.out] at this; omega
          subst hnr
          obtain ⟨g, rfl, hg1, hg2⟩ := (ot.r k _ ho).addr (show 0 < nr by omega)
          have hg3 : g ≠ w3.heap.size := fun e => (ot.r k _ ho).apart_blk b9 (by decide) (by rw [e]; rfl)
          have own5 := ot.r k _ ho
          have hcx : wr.cell? ⟨g, l, none⟩ = some (.int .i64 zx) := own5.cell (ints_at hwx)
          have hfx : wr.frozen? ⟨g, l, none⟩ = false := own5.free l
          have otS := ot.store (k := l) ho (zx + y)
          have b9S := b9.far (p := ⟨g, l, none⟩) (by dsimp only; omega) (.int .i64 (zx + y))
          have bzS := bz.far (p := ⟨g, l, none⟩) (by dsimp only; omega) (.int .i64 (zx + y))
          have kS := below_set kr (p := ⟨g, l, none⟩) (by dsimp only; omega) (.int .i64 (zx + y))
          have hro6 : rows (o3.set k (some ⟨g, 0, none⟩, nr, cr, ws.set l (zx + y))) = addTo f zss k (l + 1) := by rw [rows_set, HRO.out, hadd]
          have hcd : wr.cell? ⟨w3.heap.size, 1, none⟩ = some (.slice (some ad) n c3) := b9.at_ (i := 1) rfl
          have hrow2 : (wr.setCell ⟨g, l, none⟩ (.int .i64 (zx + y))).cell? (ad.add k) = some (.slice (some ⟨g, 0, none⟩) nr cr) := by
            obtain ⟨ad', o', e1, _, e2, e3, _⟩ := otS.ss.cell hlt
            injection e1 with e1
            subst e1
            rw [List.getElem?_set_self (List.getElem?_eq_some_iff.1 ho).1] at e2
            injection e2 with e2
            subst e2
            exact e3
          have hcd2 : (wr.setCell ⟨g, l, none⟩ (.int .i64 (zx + y))).cell? ⟨w3.heap.size, 1, none⟩ = some (.slice (some ad) n c3) := b9S.at_ (i := 1) rfl
          have hcx2 : (wr.setCell ⟨g, l, none⟩ (.int .i64 (zx + y))).cell? ⟨g, l, none⟩ = some (.int .i64 (zx + y)) := (otS.r k _ (by rw [List.getElem?_set_self (List.getElem?_eq_some_iff.1 ho).1])).cell (ints_at (by rw [List.getElem?_set_self (List.getElem?_eq_some_iff.1 hwx).1]))
          have p0 : (wr.setCell ⟨g, l, none⟩ (.int .i64 (zx + y))).cell? ⟨w.heap.size + 1 + 1, 0, none⟩ = some (.int .i64 0) := bzS.at_ (i := 0) rfl
          have p1 : (wr.setCell ⟨g, l, none⟩ (.int .i64 (zx + y))).cell? ⟨w.heap.size + 1 + 1, 1, none⟩ = some (.slice none 0 0) := bzS.at_ (i := 1) rfl
          have f0 := bzS.free 0
          have f1 := bzS.free 1
          have OTS := hide otS
          have B9S := hide b9S
          have BZS := hide bzS
          have KS := hide kS
          have HR6 := hide hro6
          have HCK := hide hcok
          have e9 : w3.heap.size ≠ g := Ne.symm hg3
          clear ot b9 bz otS b9S bzS kS hro6 own5 hy hzx hws hwx hwl hadd hcok hfy ho hs
          by_cases hle : zx + y ≤ 1000000000000
          · have HN := hide (okTo_next HCL.out (by rw [HCK.out]; exact decide_eq_true hle))
            go_wp2_with fail
            go_roundw
            case rel => exact ⟨l + 1, _, by omega, by go_num, OTS.out, HR6.out, HN.out, B9S.out, BZS.out, KS.out⟩
            case measure => simp [intOf]; omega
          · have hB := HB.out
            rw [show okTab f zss nr n = false from okTo_bad (k := k) (okTo_bad (k := l) (by rw [HCK.out]; exact decide_eq_false hle) nr hlt2) n hlt] at hB
            subst hB
            go_wp2_with fail
            refine bodyPost_ret (v := .tuple #[.agg #[.int .i64 0, .slice none 0 0], .int .i64 2]) (by simp [results, Try.results41, go_sem, p0, p1]) rfl ⟨none, 0, 0, [], rfl, Ss.none _, rfl, ?_⟩
            exact below_set (below_set KS.out (p := ⟨w.heap.size + 1 + 1, 0, none⟩) (by dsimp only; omega) _) (p := ⟨w.heap.size + 1 + 1, 1, none⟩) (by dsimp only; omega) _
        · obtain rfl : l = nu := by omega
          have HN := hide (okTo_next (k := k) HOK.out (show okRow f zss l k = true from HCL.out))
          have hr := HRO.out
          rw [addTo_row (fun zs hz => by rw [HZ0.out] at hz; injection hz with hz; subst hz; exact HZL.out)] at hr
          have HR := hide hr
          clear hr
          go_wp2_with fail
          go_roundw
          case rel => exact ⟨k + 1, _, by omega, by go_num, ot, HR.out, HN.out, b9, bz, kr⟩
          case measure => simp [intOf]; omega
    · obtain rfl : k = n := by omega
      have hB := HB.out
      rw [show okTab f zss m k = true from HOK.out] at hB
      subst hB
      have hr := hro
      rw [addTo_all (by rw [← HZ.out, rows_len, HL.out])] at hr
      have HR := hide hr
      have HOT := hide ot
      have c0 : wr.cell? ⟨w3.heap.size, 0, none⟩ = some (.int .i64 (m : Int)) := b9.at_ (i := 0) rfl
      have c1 : wr.cell? ⟨w3.heap.size, 1, none⟩ = some (.slice A3 k c3) := b9.at_ (i := 1) rfl
      have p0 : wr.cell? ⟨w.heap.size + 1 + 1, 0, none⟩ = some (.int .i64 0) := bz.at_ (i := 0) rfl
      have p1 : wr.cell? ⟨w.heap.size + 1 + 1, 1, none⟩ = some (.slice none 0 0) := bz.at_ (i := 1) rfl
      have f0 := bz.free 0
      have f1 := bz.free 1
      clear hr hro ot b9 bz
      go_wp2_with fail
      refine bodyPost_ret (v := .tuple #[.agg #[.int .i64 (m : Int), .slice A3 k c3], .int .i64 0]) (by simp [results, Try.results41, go_sem, p0, p1]) rfl ⟨A3, k, c3, o3, rfl, ((HOT.out.low (p := ⟨w.heap.size + 1 + 1, 0, none⟩) (by dsimp only; omega) _).low (p := ⟨w.heap.size + 1 + 1, 1, none⟩) (by dsimp only; omega) _).ss, HR.out, ?_⟩
      exact below_set (below_set kr (p := ⟨w.heap.size + 1 + 1, 0, none⟩) (by dsimp only; omega) _) (p := ⟨w.heap.size + 1 + 1, 1, none⟩) (by dsimp only; omega) _
end
end Go.Proofs.Ytjmkejindmgckaa
