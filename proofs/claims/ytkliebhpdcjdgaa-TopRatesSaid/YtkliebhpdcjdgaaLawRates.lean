/-
  cultop.TopRates: the law. Condition: the slice reads as a list of numbers.
-/
import Derived.Test.YtkliebhpdcjdgaaRatesP
import Derived.Test.YtkliebhpdcjdgaaShare2T
import Derived.Test.YtkliebhpdcjdgaaGateT
import Derived.Test.YtkliebhpdcjdgaaTopT
import Derived.Test.YtkliebhpdcjdgaaBoardT
namespace Go.Proofs.Ytkliebhpdcjdgaa
open Go.RowKit

theorem within_2000 (x : Int) (w : World) : Calls Try.prog 44 #[.int .i64 x, .int .i64 2000] w fun e w' => (∃ p : Nat, p < 2000 ∧ e = .returned (.int .i64 p)) ∧ w = w' := within_m (m := 2000) (by decide) (by decide) x w
theorem within_20 (x : Int) (w : World) : Calls Try.prog 44 #[.int .i64 x, .int .i64 20] w fun e w' => (∃ p : Nat, p < 20 ∧ e = .returned (.int .i64 p)) ∧ w = w' := within_m (m := 20) (by decide) (by decide) x w
theorem level_is {A : Option Addr} {n c : Nat} {l : List Int} {w : World} {room V E : Int} (h : Si w A n c l) (he : wtErr room n l = 0) (hV : lvV (lvl room l n) = V) (hE : lvE (lvl room l n) = E) :
    Calls Try.prog 45 #[.int .i64 room, .slice A n c] w fun e w' => e = .returned (.tuple #[.int .i64 V, .int .i64 E]) ∧ Below w.heap.size w w' := by
  have k := level_ok h he; rw [hV, hE] at k; exact k
theorem sum_is {A : Option Addr} {n c : Nat} {xs : List Int} {w : World} (h : Si w A n c xs) (hb : ∀ k, k ≤ n → -1000000000000000 ≤ wsum xs k ∧ wsum xs k ≤ 1000000000000000) {V : Int} (hV : wsum xs n = V) :
    Calls Try.prog 46 #[.slice A n c] w fun e w' => e = .returned (.int .i64 V) ∧ Below w.heap.size w w' := by
  have k := sum_ok h hb; rw [hV] at k; exact k
theorem keep_is {th r : Int} {b : Bool} (h : isDraw th = true) (h2 : isDraw r = true) (hb : decide (th ≤ r) = b) (w : World) : Calls Try.prog 49 #[.int .i64 th, .int .i64 r] w fun e w' => e = .returned (.tuple #[.bool b, .int .i64 0]) ∧ w = w' := by
  have k := keep_ok h h2 w; rw [hb] at k; exact k
theorem draw_of {x : Int} (h0 : 0 ≤ x) (h1 : x ≤ 72057594037927935) : isDraw x = true := inR_yes ⟨h0, h1⟩
set_option maxRecDepth 100000 in
set_option maxHeartbeats 3200000 in
theorem law_rates (room0 : Int) (A : Option Addr) (n c : Nat) (xs : List Int) (w : World) (h : Si w A n c xs) :
    Calls Try.prog 7 #[.int .i64 room0, .slice A n c] w fun e w' => e = .returned (.bool true) ∧ Below w.heap.size w w' := by
  have hm := h.len_max
  have hcap := h.cap
  obtain ⟨m0, hm0, hm12, hmn⟩ : ∃ m0 : Nat, min (n : Int) 12 = (m0 : Int) ∧ m0 ≤ 12 ∧ m0 ≤ n := by
    by_cases h6 : n ≤ 12
    · exact ⟨n, by omega, h6, Nat.le_refl _⟩
    · exact ⟨12, by omega, Nat.le_refl _, by omega⟩
  have ht := h.itake hmn
  go_enter Try.func7, Try.ntmps7
  go_wp2_with fail
  refine (begun_ok _).mono ?_
  rintro e w1 ⟨rfl, hb1⟩
  have ht1 := ht.on hb1
  go_wp2_with fail
  refine (within_2000 _ _).mono ?_
  rintro e w2 ⟨⟨R, hR, rfl⟩, rfl⟩
  clear h ht
  go_wp2_with fail
  go_loopw [5, 34] (fun v i wr => ∃ (k : Nat) (A' : Option Addr) (c' : Nat) (ws : List Int), k ≤ m0 ∧ i = .int .i64 k ∧ v = .slice A' k c' ∧ Hid (Fours ws) ∧ Own wr w1.heap.size 3 1 A' k c' (ints ws) ∧ Below w1.heap.size w1 wr) (fun _ i _ => m0 - (intOf i).toNat)
  case atStart => exact ⟨0, none, 0, [], Nat.zero_le _, rfl, rfl, hide (by intro x hx; cases hx), Own.nil _ _ _ _, Below.refl _ _⟩
  case round =>
    obtain ⟨k, A', c', ws, hk, rfl, rfl, H4, own, hbr⟩ := hrel
    have hzr : w1.heap.size ≤ wr.heap.size := hbr.size
    by_cases hlt : k < m0
    · obtain ⟨ad, x, rfl, hbk, hx, hc⟩ := (ht1.below hbr).icell hlt
      clear hx
      go_wp2_with fail
      refine (within_20 _ _).mono ?_
      rintro e w2 ⟨⟨p, hp, rfl⟩, rfl⟩
      go_wp2_with (at_builtin; refine wpList_append_sl T_int rfl _ _ rfl (by rfl) (by rfl) (own.alloc _) (Sl.lit (at_new _ _)) (by intro u hu; rw [List.mem_singleton] at hu; subst hu; rfl) (by simp only [maxLen]; omega) (by omega) (by rw [World.size_alloc]; omega) ?_; intro A3 c3 w3 ap)
      have own3 := ap.own
      have hb3 : Below w1.heap.size w1 w3 := (hbr.alloc (by omega) _).trans ap.below
      clear ap own
      go_wp2_with fail
      go_roundw
      case rel => exact ⟨k + 1, A3, c3, ws ++ [64 * (p : Int)], by omega, by go_num, rfl, hide (H4.out.snoc hp), by rw [ints_append]; exact own3, hb3⟩
      case measure => simp [intOf]; omega
    · obtain rfl : k = m0 := by omega
      have hlen := hide own.sl.ilen
      have hkw := below_on hb1 hbr
      have HER := hide (H4.out.err (room := (R : Int)) hlen.out hm12 (by omega) (by omega))
      obtain ⟨V, hV⟩ : ∃ V, wsum ws k = V := ⟨_, rfl⟩
      have hVb : 0 ≤ V ∧ V ≤ 14592 := by rw [← hV]; have := H4.out.sum k (by rw [hlen.out]; exact Nat.le_refl _); omega
      have HV := hide hV
      have HB := hide (show ∀ j, j ≤ k → -1000000000000000 ≤ wsum ws j ∧ wsum ws j ≤ 1000000000000000 from fun j hj => by have := H4.out.sum j (by rw [hlen.out]; exact hj); omega)
      clear hV ht1 hbr hm0
      rcases firstOk_is (ok := lvOk (R : Int) ws k) 21 with ⟨e1, hno⟩ | ⟨L, hL, e1, hyes, hno⟩
      · have E1 := hide (show lvV (lvl (R : Int) ws k) = 0 by unfold lvl; rw [e1]; rfl)
        have E2 := hide (show lvE (lvl (R : Int) ws k) = 4 by unfold lvl; rw [e1]; rfl)
        clear e1 hno
        go_wp2_with fail
        refine (level_is own.sl HER.out E1.out E2.out).mono ?_
        rintro e w4 ⟨rfl, hb4⟩
        go_wp2_with fail
        go_ret
        exact ⟨rfl, below_on hkw hb4⟩
      · have E1 := hide (show lvV (lvl (R : Int) ws k) = (L : Int) by unfold lvl; rw [e1]; exact lvV_yes L)
        have E2 := hide (show lvE (lvl (R : Int) ws k) = 0 by unfold lvl; rw [e1]; exact lvE_yes L)
        have own0 := own
        by_cases h6 : 6 < L
        · have hbig : (R : Int) < V / 64 := by
            have h1 := hno 6 h6
            have h2 : ¬ hsum ws 6 k ≤ (R : Int) := of_decide_eq_false h1
            have h3 := hsum_six H4.out k (by rw [hlen.out]; exact Nat.le_refl _)
            rw [HV.out] at h3
            omega
          clear e1 hno hyes
          go_wp2_with fail
          refine (level_is own.sl HER.out E1.out E2.out).mono ?_
          rintro e w4 ⟨rfl, hb4⟩
          have s4 := own.sl.on hb4
          go_wp2_with fail
          refine (sum_is s4 HB.out HV.out).mono ?_
          rintro e w5 ⟨rfl, hb5⟩
          go_wp2_with fail
          go_ret
          exact ⟨rfl, below_on (below_on hkw hb4) hb5⟩
        · obtain ⟨D, hD⟩ : ∃ D, 72057594037927936 / 2 ^ L = D := ⟨_, rfl⟩
          have D1 : 1 ≤ D := by
            rw [← hD]
            exact Nat.div_pos (Nat.le_trans (Nat.pow_le_pow_right (by decide) (show L ≤ 6 by omega)) (by decide)) (Nat.pow_pos (by decide))
          have D2 : D ≤ 72057594037927936 := by rw [← hD]; exact Nat.div_le_self _ _
          have HD := hide hD
          have hfit : hsum ws L k ≤ (R : Int) := of_decide_eq_true hyes
          have HF := hide hfit
          clear hD e1 hno hyes hfit
          obtain ⟨TH, hTH⟩ : ∃ TH : Nat, 72057594037927936 - (D : Int) = (TH : Int) := ⟨72057594037927936 - D, by omega⟩
          have HTH := hide hTH
          have hth : isDraw (TH : Int) = true := draw_of (by omega) (by omega)
          have HDT := hide hth
          clear hth hTH
          have HW := hide (wts_of hlen.out HER.out)
          go_wp2_with fail
          refine (level_is own.sl HER.out E1.out E2.out).mono ?_
          rintro e w4 ⟨rfl, hb4⟩
          have s4 := own.sl.on hb4
          have k4 := below_on hkw hb4
          clear own own0 hb4 hkw
          go_wp2_with fail
          refine (put_t (k := L) (by omega)).mono ?_
          rintro e w5 ⟨A5, c5, rfl, r5, hb5⟩
          have s5 := s4.on hb5
          have k5 := below_on k4 hb5
          clear s4 k4 hb5
          go_wp2_with fail
          refine (ask_t (by omega) r5).mono ?_
          rintro e w6 ⟨rfl, hb6⟩
          have s6 := s5.on hb6
          have k6 := below_on k5 hb6
          clear s5 k5 hb6 r5
          go_wp2_with fail
          refine (glevel_ok (by omega) HD.out _).mono ?_
          rintro e w7 ⟨rfl, rfl⟩
          rw [HTH.out]
          go_wp2_with fail
          refine (fair_ok s6 HER.out).mono ?_
          rintro e w8 ⟨A8, c8, o8, rfl, t8, p8, q8, hb8⟩
          have s8 := s6.on hb8
          have k8 := below_on k6 hb8
          obtain ⟨F, hF⟩ : ∃ F, wsum (fOut ws o8 k (R : Int) k) k = F := ⟨_, rfl⟩
          have hFR : F ≤ (R : Int) := by rw [← hF]; exact fair_all HW.out.2.1 p8 (by omega)
          have HF8 := hide hF
          have HB8 := hide (show ∀ j, j ≤ k → -1000000000000000 ≤ wsum (fOut ws o8 k (R : Int) k) j ∧ wsum (fOut ws o8 k (R : Int) k) j ≤ 1000000000000000 from fun j hj => by
            have := wsum_bound (l := fOut ws o8 k (R : Int) k) (fun x hx => by have := fOut_bd HW.out.2.1 p8 (by omega) k (Nat.le_refl _) x hx; omega) (b := j) (by rw [fOut_len]; exact hj)
            omega)
          clear s6 k6 hb8 hF q8 p8
          go_wp2_with fail
          refine (sum_is t8 HB8.out HF8.out).mono ?_
          rintro e w9 ⟨rfl, hb9⟩
          have s9 := s8.on hb9
          have k9 := below_on k8 hb9
          clear s8 k8 hb9 t8 HB8 HF8
          go_wp2_with fail
          go_loop [18, 106] (fun v i => ∃ j : Nat, j ≤ k ∧ i = .int .i64 j ∧ v = .int .i64 (hsum ws L j)) (fun _ i => k - (intOf i).toNat)
          case atStart => exact ⟨0, Nat.zero_le _, rfl, rfl⟩
          case round =>
            obtain ⟨j, hj, rfl, rfl⟩ := hrel
            have hK := hsum_le H4.out (k := L) j (by rw [hlen.out]; exact hj)
            by_cases hlt : j < k
            · obtain ⟨ad, x, rfl, hbk, hx, hc⟩ := s9.icell hlt
              obtain ⟨m, hm20, rfl⟩ := H4.out.at_ hx
              have HN := hide (kept_next (k := L) (by omega) hx rfl)
              obtain ⟨K0, hK0⟩ : ∃ K0, hsum ws L j = K0 := ⟨_, rfl⟩
              rw [hK0] at hK HN
              rw [hK0]
              obtain ⟨K1, K2⟩ := hK
              clear hx hK0
              go_wp2_with fail
              go_loop [18, 111] (fun v i => ∃ t : Nat, t ≤ 64 * m ∧ i = .int .i64 t ∧ v = .int .i64 (K0 + (kp L t : Nat))) (fun _ i => 64 * m - (intOf i).toNat)
              case atStart => exact ⟨0, Nat.zero_le _, rfl, by rw [kp_zero]; simp⟩
              case round =>
                obtain ⟨t, ht, rfl, rfl⟩ := hrel
                have hkp := kp_le L t (by omega)
                obtain ⟨P, hP⟩ : ∃ P, kp L t = P := ⟨_, rfl⟩
                have HPN := hide (kp_next (k := L) (by omega) t)
                rw [HD.out, hP] at HPN
                rw [hP] at hkp
                rw [hP]
                have HPP := hide hP
                clear hP
                by_cases hlt2 : t < 64 * m
                · obtain ⟨r, hr⟩ : ∃ r, t % 64 * 1125899906842624 = r := ⟨_, rfl⟩
                  have hr2 : (t : Int) % 64 * 1125899906842624 = (r : Int) := by omega
                  have hrd : isDraw (r : Int) = true := draw_of (by omega) (by omega)
                  have HR2 := hide hrd
                  rw [hr] at HPN
                  clear hrd
                  by_cases hle : (TH : Int) ≤ (r : Int)
                  · have hN := HPN.out
                    rw [if_pos (by have := HTH.out; omega)] at hN
                    have HN2 := hide hN
                    have HLE := hide (show decide ((TH : Int) ≤ (r : Int)) = true from decide_eq_true hle)
                    clear hN hle hr
                    go_wp2_with fail
                    refine (keep_is HDT.out HR2.out HLE.out _).mono ?_
                    rintro e w' ⟨rfl, rfl⟩
                    go_wp2_with fail
                    go_round
                    case rel => exact ⟨t + 1, by omega, by go_num, by rw [HN2.out]; go_num⟩
                    case measure => simp [intOf]; omega
                  · have hN := HPN.out
                    rw [if_neg (by have := HTH.out; omega)] at hN
                    have HN2 := hide hN
                    have HLE := hide (show decide ((TH : Int) ≤ (r : Int)) = false from decide_eq_false hle)
                    clear hN hle hr
                    go_wp2_with fail
                    refine (keep_is HDT.out HR2.out HLE.out _).mono ?_
                    rintro e w' ⟨rfl, rfl⟩
                    go_wp2_with fail
                    go_round
                    case rel => exact ⟨t + 1, by omega, by go_num, by rw [HN2.out, Nat.add_zero]⟩
                    case measure => simp [intOf]; omega
                · obtain rfl : t = 64 * m := by omega
                  have hV2 := HN.out
                  have HPE := hide (show hsum ws L (j + 1) = K0 + (P : Int) by rw [hV2, HPP.out])
                  go_wp2_with fail
                  go_round
                  case rel => exact ⟨j + 1, by omega, by go_num, by rw [HPE.out]⟩
                  case measure => simp [intOf]; omega
            · obtain rfl : j = k := by omega
              have hfin := HF.out
              go_wp2_with fail
              go_ret
              exact ⟨rfl, k9⟩
end Go.Proofs.Ytkliebhpdcjdgaa
