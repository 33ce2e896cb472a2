/-
  culref.Sum: the walk. Conditions: the slices read as lists of numbers.
-/
import Derived.Test.YtgejpinepkockaaEst2
namespace Go.Proofs.Ytgejpinepkockaa
open Go.RowKit

theorem double (v : Int) (j : Nat) : v * 2 ^ j + v * 2 ^ j = v * 2 ^ (j + 1) := by rw [Int.pow_succ, ← Int.mul_assoc]; omega

section
variable {A1 A2 A3 : Option Addr} {n1 c1 n2 c2 n3 c3 : Nat} {vs ls rs : List Int} {w : World}
set_option maxRecDepth 20000 in
set_option maxHeartbeats 1600000 in
theorem refSum_any (h1 : Si w A1 n1 c1 vs) (h2 : Si w A2 n2 c2 ls) (h3 : Si w A3 n3 c3 rs) :
    Calls Try.prog 30 #[.slice A1 n1 c1, .slice A2 n2 c2, .slice A3 n3 c3] w fun e w' =>
      e = .returned (.tuple #[.int .i64 (sumVal n1 n2 n3 vs ls rs), .int .i64 (sumErr n1 n2 n3 vs ls rs)]) ∧ Below w.heap.size w w' := by
  have hm1 := h1.len_max
  have hm3 := h3.len_max
  by_cases g0 : estErr n1 n2 vs ls = 0
  · obtain ⟨g1, g2, g3⟩ := estErr_zero g0
    have g2' := g2.symm
    subst g2'
    have H := hide g0
    have HOK := hide g3
    have E : sumErr n1 n1 n3 vs ls rs = if n3 ≠ n1 then 7 else if okTo (drawOk rs) n3 = true then 0 else 1 := by unfold sumErr; rw [if_neg (by simpa using g0)]
    clear g0 g3 g2
    by_cases g4 : n3 = n1
    · subst g4
      rw [if_neg (by simp)] at E
      have HE := hide E
      clear E
      go_enter Try.func30, Try.ntmps30
      go_wp2_with fail
      refine (values_is h1 h2 H.out).mono ?_
      rintro e w1 ⟨rfl, hb1⟩
      go_wp2_with fail
      go_loopw [9, 26] (fun o i wr => ∃ k : Nat, k ≤ n3 ∧ i = .int .i64 k ∧ okTo (drawOk rs) k = true ∧ o = .int .i64 (sumTo vs ls rs k) ∧ Below w.heap.size w wr) (fun _ i _ => n3 - (intOf i).toNat)
      case atStart => exact ⟨0, Nat.zero_le _, rfl, rfl, rfl, hb1⟩
      case round =>
        obtain ⟨k, hk, rfl, hok, rfl, hwr⟩ := hrel
        have HDO := hide hok
        clear hok
        by_cases hlt : k < n3
        · obtain ⟨ad, v, rfl, hb, hv, hc⟩ := (h1.on hwr).icell hlt
          obtain ⟨ae, l, rfl, hbe, hl, hd⟩ := (h2.on hwr).icell hlt
          obtain ⟨af, r, rfl, hbf, hr, hf⟩ := (h3.on hwr).icell hlt
          obtain ⟨v1, v2, l0, l1⟩ := estOk_true hv hl (okTo_at n3 HOK.out hlt)
          obtain ⟨ln, rfl⟩ := Int.eq_ofNat_of_zero_le l0
          have l2 : ln ≤ 20 := by omega
          have HR := hide hr
          have hit := sumTo_hit hv hl hr
          have miss := sumTo_miss (vs := vs) hl hr
          have HHIT := hide hit
          have HMISS := hide miss
          clear hv hl hr hit miss
          obtain ⟨s, hs⟩ : ∃ s, s = sumTo vs ls rs k := ⟨_, rfl⟩
          rw [← hs] at HHIT HMISS ⊢
          have HS := hide hs
          clear hs
          by_cases a1 : 0 ≤ r ∧ r ≤ 72057594037927935
          · have d1 := inR_yes a1
            have HN := hide (okTo_next HDO.out (show drawOk rs k = true by unfold drawOk; rw [getD_of HR.out]; exact d1))
            by_cases a3 : lev ln ≤ r
            · have HT := hide (HHIT.out a3)
              clear a1
              go_wp2_with (first | (go_at_call 65; refine (draw_any _ _).mono ?_; rintro e w' ⟨rfl, rfl⟩) | (go_at_call 62; refine (level_any ln (by omega) _).mono ?_; rintro e w' ⟨rfl, rfl⟩))
              obtain ⟨wo, rfl⟩ : ∃ wo : World, wo = wr := ⟨_, rfl⟩
              go_loop [12, 49] (fun x i => ∃ j : Nat, j ≤ ln ∧ i = .int .i64 j ∧ x = .int .i64 (v * 2 ^ j)) (fun _ i => ln - (intOf i).toNat)
              case atStart => exact ⟨0, Nat.zero_le _, rfl, by simp⟩
              case round =>
                obtain ⟨j, hj, rfl, rfl⟩ := hrel
                obtain ⟨p5, p6⟩ := mul_bounds (show j ≤ 20 by omega) v1 v2
                by_cases hjl : j < ln
                · go_wp2
                  go_round
                  case rel => exact ⟨j + 1, by omega, by go_num, by rw [double]⟩
                  case measure => simp [intOf]; omega
                · obtain rfl : j = ln := by omega
                  go_wp2
                  go_roundw
                  case rel => exact ⟨k + 1, by omega, by go_num, HN.out, by rw [HT.out], by repeat' (first | assumption | with_reducible exact Below.refl _ _ | with_reducible apply Below.drew | with_reducible apply below_drewN | with_reducible apply below_alloc | with_reducible refine below_set ?_ ?_ _ | (simp only [World.size_alloc, World.heap_drewN]; omega) | (simp; omega))⟩
                  case measure => simp [intOf]; omega
            · have HT := hide (HMISS.out a3)
              clear a1
              go_wp2_with (first | (go_at_call 65; refine (draw_any _ _).mono ?_; rintro e w' ⟨rfl, rfl⟩) | (go_at_call 62; refine (level_any ln (by omega) _).mono ?_; rintro e w' ⟨rfl, rfl⟩))
              go_roundw
              case rel => exact ⟨k + 1, by omega, by go_num, HN.out, by rw [HT.out], by repeat' (first | assumption | with_reducible exact Below.refl _ _ | with_reducible apply Below.drew | with_reducible apply below_drewN | with_reducible apply below_alloc | with_reducible refine below_set ?_ ?_ _ | (simp only [World.size_alloc, World.heap_drewN]; omega) | (simp; omega))⟩
              case measure => simp [intOf]; omega
          · have d1 := inR_no a1
            have e1 : sumErr n3 n3 n3 vs ls rs = 1 := by rw [HE.out, okTo_bad (k := k) _ n3 hlt]; simp; unfold drawOk; rw [getD_of HR.out]; exact d1
            have e2 : sumVal n3 n3 n3 vs ls rs = 0 := by unfold sumVal; rw [e1]; rfl
            have B := hide e1
            have B2 := hide e2
            clear a1 e1 e2
            go_wp2_with (first | (go_at_call 65; refine (draw_any _ _).mono ?_; rintro e w' ⟨rfl, rfl⟩))
            go_ret2
            exact ⟨by rw [B.out, B2.out]; rfl, hwr⟩
        · obtain rfl : k = n3 := by omega
          go_wp2
          go_ret2
          have e1 : sumErr k k k vs ls rs = 0 := by rw [HE.out, if_pos HDO.out]
          have e2 : sumVal k k k vs ls rs = sumTo vs ls rs k := by unfold sumVal; rw [if_pos e1]
          exact ⟨by rw [e1, e2]; rfl, hwr⟩
    · rw [if_pos g4] at E
      have E2 : sumVal n1 n1 n3 vs ls rs = 0 := by unfold sumVal; rw [E]; rfl
      have HE := hide E
      have HE2 := hide E2
      have t1 : ((n3 : Int) != (n1 : Int)) = true := by simp; omega
      clear E E2
      go_enter Try.func30, Try.ntmps30
      go_wp2_with fail
      refine (values_is h1 h2 H.out).mono ?_
      rintro e w1 ⟨rfl, hb1⟩
      go_wp2_with fail
      go_ret2
      exact ⟨by rw [HE.out, HE2.out]; rfl, hb1⟩
  · obtain ⟨E, hE⟩ : ∃ E, estErr n1 n2 vs ls = E := ⟨_, rfl⟩
    have e1 : sumErr n1 n2 n3 vs ls rs = E := by unfold sumErr; rw [if_pos g0, hE]
    rw [hE] at g0
    have e2 : sumVal n1 n2 n3 vs ls rs = 0 := by unfold sumVal; rw [e1, if_neg g0]
    have HE := hide e1
    have HE2 := hide e2
    have H := hide hE
    have t1 : (E != 0) = true := by simp [g0]
    clear e1 e2 hE g0
    go_enter Try.func30, Try.ntmps30
    go_wp2_with fail
    refine (values_is h1 h2 H.out).mono ?_
    rintro e w1 ⟨rfl, hb1⟩
    go_wp2_with fail
    go_ret2
    exact ⟨by rw [HE.out, HE2.out]; rfl, hb1⟩
end
end Go.Proofs.Ytgejpinepkockaa
