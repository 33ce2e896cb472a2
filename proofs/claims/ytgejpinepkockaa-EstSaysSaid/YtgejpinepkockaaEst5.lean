/-
  culref.Spread: the walk. Conditions: the slices read as lists of numbers.
-/
import Derived.Test.YtgejpinepkockaaEst4
namespace Go.Proofs.Ytgejpinepkockaa
open Go.RowKit

section
variable {A1 A2 : Option Addr} {n1 c1 n2 c2 : Nat} {vs ls : List Int} {w : World}
set_option maxRecDepth 20000 in
set_option maxHeartbeats 1600000 in
theorem refSpread_any (h1 : Si w A1 n1 c1 vs) (h2 : Si w A2 n2 c2 ls) :
    Calls Try.prog 31 #[.slice A1 n1 c1, .slice A2 n2 c2] w fun e w' => e = .returned (.tuple #[.int .i64 (spVal n1 n2 vs ls), .int .i64 (spErr n1 n2 vs ls)]) ∧ Below w.heap.size w w' := by
  have hm1 := h1.len_max
  by_cases g0 : estErr n1 n2 vs ls = 0
  · obtain ⟨g1, g2, g3⟩ := estErr_zero g0
    have g2' := g2.symm
    subst g2'
    have H := hide g0
    have HOK := hide g3
    have E := hide (show spErr n1 n1 vs ls = if noneTo big vs n1 = false then 1 else if okTo (spOk vs ls) n1 = true then 0 else 2 by unfold spErr; rw [if_neg (by simpa using g0)])
    clear g0 g3 g2
    cases hN : noneTo big vs n1
    · have e1 : spErr n1 n1 vs ls = 1 := by rw [E.out, if_pos hN]
      have B := hide e1
      have B2 := hide (spVal_bad (show ¬ spErr n1 n1 vs ls = 0 by rw [e1]; decide))
      have HN := hide hN
      clear e1 hN
      go_enter Try.func31, Try.ntmps31
      go_wp2_with fail
      refine (values_is h1 h2 H.out).mono ?_
      rintro e w1 ⟨rfl, hb1⟩
      go_wp2_with fail
      refine (containsFunc_ints _ big big_answers A1 n1 c1 vs _ (h1.on hb1) (b := true) (by rw [HN.out]; rfl)).mono ?_
      rintro e w2 ⟨rfl, hb2⟩
      have hw2 := below_on hb1 hb2
      go_wp2_with fail
      go_ret2
      exact ⟨by rw [B.out, B2.out]; rfl, hw2⟩
    · have HNO := hide hN
      have E2 := hide (show spErr n1 n1 vs ls = if okTo (spOk vs ls) n1 = true then 0 else 2 by rw [E.out, if_neg (by rw [hN]; simp)])
      clear hN
      go_enter Try.func31, Try.ntmps31
      go_wp2_with fail
      refine (values_is h1 h2 H.out).mono ?_
      rintro e w1 ⟨rfl, hb1⟩
      go_wp2_with fail
      refine (containsFunc_ints _ big big_answers A1 n1 c1 vs _ (h1.on hb1) (b := false) (by rw [HNO.out]; rfl)).mono ?_
      rintro e w2 ⟨rfl, hb2⟩
      have hw2 := below_on hb1 hb2
      go_wp2_with fail
      go_loopw [7, 21] (fun o i wr => ∃ k : Nat, k ≤ n1 ∧ i = .int .i64 k ∧ o = .int .i64 (1152921504606846976 - spreadTo vs ls k) ∧ okTo (spOk vs ls) k = true ∧ Below w.heap.size w wr) (fun _ i _ => n1 - (intOf i).toNat)
      case atStart => exact ⟨0, Nat.zero_le _, rfl, by simp [spreadTo], rfl, hw2⟩
      case round =>
        obtain ⟨k, hk, rfl, rfl, hok, hwr⟩ := hrel
        have HSP := hide hok
        clear hok
        by_cases hlt : k < n1
        · obtain ⟨ad, v, rfl, hb, hv, hc⟩ := (h1.on hwr).icell hlt
          obtain ⟨ae, l, rfl, hbe, hl, hd⟩ := (h2.on hwr).icell hlt
          obtain ⟨v1, v2⟩ := big_no HNO.out hlt hv
          obtain ⟨_, _, l0, l1⟩ := estOk_true hv hl (okTo_at n1 HOK.out hlt)
          obtain ⟨ln, rfl⟩ := Int.eq_ofNat_of_zero_le l0
          have l2 : ln ≤ 20 := by omega
          obtain ⟨p3, p4⟩ := sq_bounds v1 v2
          have hs1 := spreadTo_le k k (Nat.le_refl _) HSP.out
          have hs0 := spreadTo_pos HOK.out HNO.out h1.ilen h2.ilen k (by omega)
          have HNX := hide (spread_next hv hl)
          clear hv hl
          obtain ⟨s, hs⟩ : ∃ s, s = spreadTo vs ls k := ⟨_, rfl⟩
          rw [← hs] at hs0 hs1 HNX ⊢
          clear hs
          go_wp2
          obtain ⟨wo, rfl⟩ : ∃ wo : World, wo = wr := ⟨_, rfl⟩
          go_loop [7, 30] (fun o i => ∃ j : Nat, j ≤ ln ∧ i = .int .i64 j ∧ o = .int .i64 (1152921504606846976 - s - v * v * (2 ^ j - 1))) (fun _ i => ln - (intOf i).toNat)
          case atStart => exact ⟨0, Nat.zero_le _, rfl, by simp⟩
          case round =>
            obtain ⟨j, hj, rfl, rfl⟩ := hrel
            have hj2 : j ≤ 20 := by omega
            obtain ⟨p1, p2⟩ := pow_bounds hj2
            obtain ⟨p5, p6⟩ := sp_bounds hj2 v1 v2
            obtain ⟨p7, p8⟩ := sq_pow_bounds hj2 v1 v2
            by_cases hjl : j < ln
            · have HST := hide (sp_step v j (1152921504606846976 - s))
              go_wp2
              go_round
              case rel => exact ⟨j + 1, by omega, by go_num, by rw [HST.out]⟩
              case measure => simp [intOf]; omega
            · obtain rfl : j = ln := by omega
              by_cases a1 : 1152921504606846976 - s - v * v * (2 ^ j - 1) < 0
              · have e1 : spErr n1 n1 vs ls = 2 := by rw [E2.out, if_neg]; rw [okTo_bad (k := k) (by unfold spOk; rw [HNX.out]; simp; omega) n1 hlt]; simp
                have B := hide e1
                have B2 := hide (spVal_bad (show ¬ spErr n1 n1 vs ls = 0 by rw [e1]; decide))
                clear e1
                go_wp2
                go_ret2
                exact ⟨by rw [B.out, B2.out]; rfl, hwr⟩
              · have HN := hide (okTo_next HSP.out (show spOk vs ls k = true by unfold spOk; rw [HNX.out]; simp; omega))
                go_wp2
                go_roundw
                case rel => exact ⟨k + 1, by omega, by go_num, by rw [HNX.out, Int.sub_sub], HN.out, by repeat' (first | assumption | with_reducible exact Below.refl _ _ | with_reducible apply Below.drew | with_reducible apply below_drewN | with_reducible apply below_alloc | with_reducible refine below_set ?_ ?_ _ | (simp only [World.size_alloc, World.heap_drewN]; omega) | (simp; omega))⟩
                case measure => simp [intOf]; omega
        · obtain rfl : k = n1 := by omega
          have e1 : spErr k k vs ls = 0 := by rw [E2.out, if_pos HSP.out]
          have B := hide e1
          have hs1 := spreadTo_le k k (Nat.le_refl _) HSP.out
          have hs0 := spreadTo_pos HOK.out HNO.out h1.ilen h2.ilen k (by omega)
          have B2 := hide (show spVal k k vs ls = 1152921504606846976 - (1152921504606846976 - spreadTo vs ls k) by unfold spVal; rw [if_pos e1]; omega)
          clear e1
          go_wp2
          go_ret2
          exact ⟨by rw [B.out, B2.out]; rfl, hwr⟩
  · obtain ⟨E, hE⟩ : ∃ E, estErr n1 n2 vs ls = E := ⟨_, rfl⟩
    have e1 : spErr n1 n2 vs ls = E := by unfold spErr; rw [if_pos g0, hE]
    rw [hE] at g0
    have HE := hide e1
    have HE2 := hide (spVal_bad (n := n1) (m := n2) (vs := vs) (ls := ls) (by rw [e1]; exact g0))
    have H := hide hE
    have t1 : (E != 0) = true := by simp [g0]
    clear e1 hE g0
    go_enter Try.func31, Try.ntmps31
    go_wp2_with fail
    refine (values_is h1 h2 H.out).mono ?_
    rintro e w1 ⟨rfl, hb1⟩
    go_wp2_with fail
    go_ret2
    exact ⟨by rw [HE.out, HE2.out]; rfl, hb1⟩
end
end Go.Proofs.Ytgejpinepkockaa
