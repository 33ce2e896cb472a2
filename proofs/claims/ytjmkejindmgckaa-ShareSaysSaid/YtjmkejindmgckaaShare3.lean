/-
  culref.Fair: the walk. Conditions: the slice reads as a list of numbers; the order by demands is given.
-/
import Derived.Test.YtjmkejindmgckaaShare2
import Derived.Test.YtjmkejindmgckaaBloom
namespace Go.Proofs.Ytjmkejindmgckaa
open Go.RowKit

theorem bools_zero (n : Nat) : List.replicate n (Value.bool false) = bools (List.replicate n false) := by simp [bools]
section
variable {A : Option Addr} {n c : Nat} {l o : List Int} {w : World} {room : Int}
set_option maxRecDepth 100000 in
set_option maxHeartbeats 3200000 in
theorem rfair_ok (h : Si w A n c l) (he : wtErr room n l = 0) (hpm : Pm n o) (hsr : Srt (kap l) o 0 n) :
    Calls Try.prog 61 #[.int .i64 room, .slice A n c] w fun e w' => ∃ A' c', e = .returned (.slice A' n c') ∧ Si w' A' n c' (fOut l o n room n) ∧ Below w.heap.size w w' := by
  obtain ⟨n4, hw, r0, r1⟩ := wts_of h.ilen he
  have HW := hide hw
  have HPM := hide hpm
  have HSR := hide hsr
  clear he hw hpm hsr
  go_enter Try.func61, Try.ntmps61
  go_upto_region 2 with (at_make; refine wpList_make_sl T_int rfl rfl _ _ rfl (by rfl) (by rfl) (by omega) (by simp only [maxLen]; omega) ?_; intro w1 own1 hb1)
  rw [ints_zero] at own1
  have HO1 := hide own1
  have hl1 : w.heap.size < w1.heap.size := (Own.blk own1 rfl).2
  clear own1
  go_wp2_with (at_make; refine wpList_make_sl T_bool rfl rfl _ _ rfl (by rfl) (by rfl) (by omega) (by simp only [maxLen]; omega) ?_; intro w2 own2 hb2)
  rw [bools_zero] at own2
  have HO2 := hide own2
  have HO1' := hide (HO1.out.below hb2 (Nat.le_refl _))
  have k2 := below_on hb1 hb2
  have hl2 : w1.heap.size < w2.heap.size := (Own.blk own2 rfl).2
  clear own2 hb1 hb2 HO1
  go_loopw [0, 7] (fun vr vl wr => ∃ t d : Nat, t + d = n ∧ vl = .int .i64 d ∧ vr = .int .i64 (fRoom l o n room t) ∧ Own wr w.heap.size 3 1 (some ⟨w.heap.size, 0, none⟩) n n (ints (fOut l o n room t)) ∧ Own wr w1.heap.size 4 1 (some ⟨w1.heap.size, 0, none⟩) n n (bools (hasL o n t)) ∧ Below w.heap.size w wr) (fun _ vl _ => (intOf vl).toNat)
  case atStart => exact ⟨0, n, by omega, rfl, rfl, HO1'.out, HO2.out, k2⟩
  case round =>
    clear HO1' HO2 k2
    obtain ⟨t, d, htd, rfl, rfl, oo, oh, kr⟩ := hrel
    by_cases hd0 : 0 < d
    · have HOO := hide oo
      have HOH := hide oh
      have hs := h.on kr
      clear oo oh
      go_wp2_with fail
      obtain ⟨wo, rfl⟩ : ∃ wo : World, wo = wr := ⟨_, rfl⟩
      go_loop [8, 25] (fun vb vi => ∃ (i : Nat) (b : Int), i ≤ n ∧ vi = .int .i64 i ∧ vb = .int .i64 b ∧ Best o n t i b) (fun _ vi => n - (intOf vi).toNat)
      case atStart => exact ⟨0, -1, Nat.zero_le _, rfl, rfl, best_start HPM.out⟩
      case round =>
        obtain ⟨i, b, hi, rfl, rfl, hbest⟩ := hrel
        have HBE := hide hbest
        clear hbest
        by_cases hlt : i < n
        · obtain ⟨si, hsi, hsie⟩ := HPM.out.sur i hlt
          obtain ⟨ad, x, rfl, hbk, hx, hcx⟩ := hs.icell hlt
          have HX := hide (el_of hx)
          have hch := HOH.out.cell (bools_at (by have := hasL_at HPM.out hsi t (by omega); rwa [hsie, Int.toNat_natCast] at this))
          have HSI := hide hsie
          clear hx hsie
          by_cases hst : si < t
          · rw [decide_eq_true hst] at hch
            have HN := hide (best_skip HPM.out HBE.out HSI.out hst (by omega))
            go_wp2_with fail
            go_round
            case rel => exact ⟨i + 1, b, by omega, by go_num, rfl, HN.out⟩
            case measure => simp [intOf]; omega
          · rw [decide_eq_false hst] at hch
            rcases best_range HPM.out HBE.out with hb | ⟨u, hu, hb⟩
            · have HN := hide (best_first HPM.out HBE.out (by omega) HSI.out (by omega) hsi)
              subst hb
              go_wp2_with fail
              go_round
              case rel => exact ⟨i + 1, i, by omega, by go_num, rfl, HN.out⟩
              case measure => simp [intOf]; omega
            · subst hb
              obtain ⟨ad2, y, e2, hbk2, hy, hcy⟩ := hs.icell hu
              injection e2 with e2
              subst e2
              have HY := hide (show kap l (u : Int) = y by rw [kap_nat]; exact el_of hy)
              clear hy
              by_cases hc : x < y
              · have HN := hide (best_less HPM.out HSR.out HBE.out (by omega) HSI.out (by omega) hsi (by rw [HX.out, HY.out]; exact hc))
                go_wp2_with fail
                go_round
                case rel => exact ⟨i + 1, i, by omega, by go_num, rfl, HN.out⟩
                case measure => simp [intOf]; omega
              · have HN := hide (best_keep HPM.out HSR.out HBE.out (by omega) HSI.out (by omega) hsi (by rw [HX.out, HY.out]; exact hc))
                go_wp2_with fail
                go_round
                case rel => exact ⟨i + 1, u, by omega, by go_num, rfl, HN.out⟩
                case measure => simp [intOf]; omega
        · obtain rfl : n = i := by omega
          have hbe := best_end HPM.out HBE.out (by omega)
          obtain ⟨v, hv, hve⟩ := HPM.out.rng t (by omega)
          rw [hve] at hbe
          subst hbe
          obtain ⟨ad, x, rfl, hbk, hx, hcx⟩ := hs.icell hv
          obtain ⟨x0, x1⟩ := HW.out.cnt v hv
          rw [el_of hx] at x0 x1
          obtain ⟨R0, R1⟩ := fRoom_bd HW.out HPM.out r0 t (by omega)
          have HST := hide (show fVal l o n room t = if fRoom l o n room t / (d : Int) < x then fRoom l o n room t / (d : Int) else x by rw [fVal, fStep, hve, kap_nat, el_of hx, show (n : Int) - t = d by omega])
          have HFR := hide (show fRoom l o n room (t + 1) = fRoom l o n room t - fVal l o n room t from rfl)
          have HFO := hide (show fOut l o n room (t + 1) = (fOut l o n room t).set v (fVal l o n room t) by rw [fOut, hve, Int.toNat_natCast])
          have HHA := hide (show hasL o n (t + 1) = (hasL o n t).set v true by rw [hasL, hve, Int.toNat_natCast])
          obtain ⟨R, hR⟩ : ∃ R, fRoom l o n room t = R := ⟨_, rfl⟩
          obtain ⟨V, hV⟩ : ∃ V, fVal l o n room t = V := ⟨_, rfl⟩
          rw [hR] at R0 R1 HST HFR
          rw [hV] at HST HFR HFO
          rw [hR]
          have hrd := rem_div R0 (show (0 : Int) < (d : Int) by omega)
          have m0 : 0 ≤ R % (d : Int) := Int.emod_nonneg _ (by omega)
          have m1 : R % (d : Int) ≤ R := by
            have h1 := Int.emod_add_mul_ediv R d
            have h2 : 0 ≤ (d : Int) * (R / (d : Int)) := Int.mul_nonneg (by omega) (Int.ediv_nonneg R0 (by omega))
            omega
          have Q0 : 0 ≤ R / (d : Int) := Int.ediv_nonneg R0 (by omega)
          have Q1 : R / (d : Int) ≤ R := Int.ediv_le_self _ R0
          obtain ⟨Q, hQ⟩ : ∃ Q, R / (d : Int) = Q := ⟨_, rfl⟩
          rw [hQ] at HST Q0 Q1 hrd
          have coo := HOO.out.cell (j := v) (u := .int .i64 (el (fOut l o n room t) v)) (ints_at (el_at (by rw [fOut_len]; exact hv)))
          obtain ⟨y, hy⟩ : ∃ y, el (fOut l o n room t) v = y := ⟨_, rfl⟩
          rw [hy] at coo
          have cfo := HOO.out.free v
          have hbl := hasL_len o n t
          have hgb : (hasL o n t)[v]? = some ((hasL o n t).getD v false) := by rw [List.getD, List.getElem?_eq_getElem (by omega)]; rfl
          have coh := HOH.out.cell (bools_at hgb)
          have cfh := HOH.out.free v
          obtain ⟨hb, hhb⟩ : ∃ hb, (hasL o n t).getD v false = hb := ⟨_, rfl⟩
          rw [hhb] at coh
          have v0 : (0 : Int) ≤ (v : Int) := by omega
          have v1 : (v : Int) < (n : Int) := by omega
          have dz : ¬ (d : Int) = 0 := by omega
          clear hx hR hV hQ hve hbl hgb hhb hy
          have ooS := (HOO.out.far (p := ⟨w1.heap.size, v, none⟩) (fun g hg e => by injection hg with hg; injection hg with hg; dsimp only at e; omega) (.bool true)).set v (.int .i64 Q)
          rw [← ints_set] at ooS
          have ohS := (HOH.out.set v (.bool true)).far (p := ⟨w.heap.size, v, none⟩) (fun g hg e => by injection hg with hg; injection hg with hg; dsimp only at e; omega) (.int .i64 Q)
          rw [← bools_set, ← HHA.out] at ohS
          have kS := below_set (below_set kr (p := ⟨w1.heap.size, v, none⟩) (by dsimp only; omega) (.bool true)) (p := ⟨w.heap.size, v, none⟩) (Nat.le_refl _) (.int .i64 Q)
          have OOS := hide ooS
          have OHS := hide ohS
          have KS := hide kS
          have HC := hide hcx
          clear ooS ohS kS hcx
          go_wp2_with fail
          obtain ⟨w5, hw5⟩ : ∃ w5, (wo.setCell ⟨w1.heap.size, v, none⟩ (.bool true)).setCell ⟨w.heap.size, v, none⟩ (.int .i64 Q) = w5 := ⟨_, rfl⟩
          rw [hw5] at OOS OHS KS ⊢
          clear hw5
          obtain ⟨ad2, x2, e2, hbk2, hx2, hcx⟩ := (h.on KS.out).icell hv
          injection e2 with e2
          subst e2
          have hx3 := hs.icell hv
          obtain ⟨ad3, x3, e3, hbk3, hx3, hcx3⟩ := hx3
          injection e3 with e3
          subst e3
          rw [hx2] at hx3
          injection hx3 with hx3
          have hc2 := HC.out
          rw [hcx3] at hc2
          injection hc2 with hc2
          injection hc2 with hc2 hc3
          rw [hx3, hc3] at hcx
          have coq : w5.cell? ⟨w.heap.size, v, none⟩ = some (.int .i64 Q) := OOS.out.cell (ints_at (by rw [List.getElem?_set_self (by rw [fOut_len]; exact hv)]))
          have fq := OOS.out.free v
          clear hx2 hx3 hc2 hc3 hcx3 HC coo cfo coh cfh hrd
          by_cases hc : x < Q
          · have hVx := HST.out
            rw [if_neg (by omega)] at hVx
            have o6 := OOS.out.set v (.int .i64 x)
            rw [← ints_set, List.set_set, ← hVx, ← HFO.out] at o6
            have oh6 := OHS.out.far (p := ⟨w.heap.size, v, none⟩) (fun g hg e => by injection hg with hg; injection hg with hg; dsimp only at e; omega) (.int .i64 V)
            have k6 := below_set KS.out (p := ⟨w.heap.size, v, none⟩) (Nat.le_refl _) (.int .i64 V)
            rw [hVx] at o6 oh6 k6
            have O6 := hide o6
            have OH6 := hide oh6
            have K6 := hide k6
            have HVX := hide hVx
            have hxd : ∀ q, (w5.drewN q).frozen? ⟨w.heap.size, v, none⟩ = false := fun q => fq
            obtain ⟨d2, hd2⟩ : ∃ d2, d - 1 = d2 := ⟨_, rfl⟩
            have ed2 : (d : Int) - 1 = (d2 : Int) := by omega
            have HD2 := hide hd2
            clear o6 oh6 k6 hVx hd2
            go_quiet (fail)
            go_wp2_with fail
            go_roundw
            case rel =>
              have := HD2.out
              exact ⟨t + 1, d2, by omega, rfl, by rw [HFR.out, HVX.out], O6.out.drewN nq, OH6.out.drewN nq, below_drewN K6.out nq⟩
            case measure => have := HD2.out; simp [intOf]; omega
          · have hVx : V = Q := by
              have := HST.out
              by_cases hq : Q < x
              · rw [if_pos hq] at this; exact this
              · rw [if_neg hq] at this; omega
            have o6 := OOS.out
            rw [← hVx, ← HFO.out] at o6
            have O6 := hide o6
            have HVX := hide hVx
            obtain ⟨d2, hd2⟩ : ∃ d2, d - 1 = d2 := ⟨_, rfl⟩
            have ed2 : (d : Int) - 1 = (d2 : Int) := by omega
            have HD2 := hide hd2
            clear o6 hVx hd2
            go_quiet (fail)
            go_wp2_with fail
            go_roundw
            case rel =>
              have := HD2.out
              exact ⟨t + 1, d2, by omega, rfl, by rw [HFR.out, HVX.out], O6.out.drewN nq, OHS.out.drewN nq, below_drewN KS.out nq⟩
            case measure => have := HD2.out; simp [intOf]; omega
    · obtain rfl : t = n := by omega
      go_wp2_with fail
      go_ret
      exact ⟨_, _, rfl, oo.sl, kr⟩
end
end Go.Proofs.Ytjmkejindmgckaa
