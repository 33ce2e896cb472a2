/-
  sort.partitionEqual over the reversed row: the walk. Conditions: the row, the places.
-/
import Derived.Test.YtfopihlbdceepaaGreatPart
namespace Go.Proofs.YtfopihlbdceepaaGreat
open Go.RowKit Go.Shelf

theorem scans_apart2 {p q : Int → Bool} {d : Array Int} {i0 J I j : Nat} (hq : ∀ x, q x = !p x) (h1 : Sort.scanUp p d J i0 = I) (h2 : Sort.scanDown q d I J = j) (h3 : I ≤ j) (hj : j ≤ J) (h0 : 0 < I) : I < j := by
  obtain rfl : q = fun x => !p x := funext hq
  exact scans_apart h1 h2 h3 hj h0
section
variable {W : World} {b g N c base : Nat} {d : Array Int}
set_option maxRecDepth 100000 in
set_option maxHeartbeats 6400000 in
theorem parteq_any (h : RA W b g N c base d) {a e pv : Nat} (hap : a ≤ pv) (hpe : pv < e) (heN : e ≤ N) (hN : N ≤ 1000) :
    Calls Tryz.prog 75 #[.iface 76 (.pointer (some ⟨b, 0, none⟩)), .int .i64 a, .int .i64 e, .int .i64 pv] W fun r w' => r = .returned (.int .i64 ((Sort.partitionEqual ltD d a e pv).1 : Nat)) ∧ RA w' b g N c base (Sort.partitionEqual ltD d a e pv).2 ∧ W.grownBy w' (some g) := by
  have eL := entersF Tryz.func117 (by kernel_rfl) rfl
  have eS := entersF Tryz.func115 (by kernel_rfl) rfl
  have mL := fun (W' : World) (h' : W'.cell? ⟨b, 0, none⟩ = some (.iface 55 (.slice (some ⟨g, 0, none⟩) N c))) => n_less h'
  have mS := fun (W' : World) (h' : W'.cell? ⟨b, 0, none⟩ = some (.iface 55 (.slice (some ⟨g, 0, none⟩) N c))) => n_swap h'
  have cW := h.rs.cell
  have CS := hide (ra_swap h (i := a) (j := pv) (by omega) (by omega) hN)
  obtain ⟨J, hJ⟩ : ∃ J, e = J + 1 := ⟨e - 1, by omega⟩
  subst hJ
  obtain ⟨PL, hPL⟩ : ∃ PL, Sort.partitionEqual ltD d a (J + 1) pv = PL := ⟨_, rfl⟩
  have HPL := hide (show Sort.partEqLoop ltD a (a + 1) J (Sort.swp d a pv) = PL from hPL)
  rw [hPL]
  clear h hPL
  go_enter Tryz.func75, Tryz.ntmps75
  go_wp2_with fail
  refine CS.out.mono ?_
  rintro r w1 ⟨rfl, h1, g1⟩
  have H1 := hide h1
  have HG1 := hide g1
  clear h1 g1 CS cW
  go_wp2_with fail
  go_loopw [9, 10] (fun vi vj wx => ∃ (i j : Nat) (dk : Array Int), vi = .int .i64 i ∧ vj = .int .i64 j ∧ a + 1 ≤ i ∧ i ≤ j + 1 ∧ j ≤ J ∧ Hid (RA wx b g N c base dk) ∧ Hid (Sort.partEqLoop ltD a i j dk = PL) ∧ Hid (W.grownBy wx (some g))) (fun vi vj _ => (intOf vj + 1 - intOf vi).toNat)
  case atStart => exact ⟨a + 1, J, _, by go_num, by go_num, by omega, by omega, by omega, H1, HPL, HG1⟩
  case round =>
    clear H1 HG1 HPL
    obtain ⟨i0, j0, dk, rfl, rfl, hi0, hij0, hj0, HR, HPL, HG⟩ := hrel
    obtain ⟨wo, rfl⟩ : ∃ wo : World, wo = wr := ⟨_, rfl⟩
    go_upto_block 2 with fail
    go_cut [9] (fun v wx => ∃ i : Nat, v = .int .i64 i ∧ i0 ≤ i ∧ i ≤ j0 + 1 ∧ Hid (RA wx b g N c base dk) ∧ Hid (Sort.scanUp (fun x => !ltD dk[a]! x) dk j0 i0 = i) ∧ Hid (W.grownBy wx (some g)))
    case first =>
      go_wp2_with fail
      go_loopw [9] (fun v wx => ∃ i : Nat, v = .int .i64 i ∧ i0 ≤ i ∧ i ≤ j0 + 1 ∧ Hid (RA wx b g N c base dk) ∧ Hid (Sort.scanUp (fun x => !ltD dk[a]! x) dk j0 i0 = Sort.scanUp (fun x => !ltD dk[a]! x) dk j0 i) ∧ Hid (W.grownBy wx (some g))) (fun v _ => j0 + 1 - (intOf v).toNat)
      case atStart => exact ⟨i0, by go_num, Nat.le_refl _, by omega, HR, hide rfl, HG⟩
      case round =>
        clear HR HG
        obtain ⟨i, rfl, hai, hij, HR, HS, HG⟩ := hrel
        by_cases hle : i ≤ j0
        · have CL := hide (ra_less HR.out (i := a) (j := i) (by omega) (by omega) hN)
          have cW := HR.out.rs.cell
          cases hl : ltD dk[a]! dk[i]! with
          | false =>
            rw [hl] at CL
            have HS2 := hide (HS.out.trans (up_go hle (by simp [hl])))
            clear hl HS
            go_wp2_with fail
            refine CL.out.mono ?_
            rintro r w2 ⟨rfl, b2⟩
            have h2 := hide (HR.out.below b2)
            have HG2 := hide (grown_trans HG.out (grown_of b2))
            clear HR HG b2 cW CL
            go_wp2_with fail
            go_roundw
            case rel => exact ⟨i + 1, by go_num, by omega, by omega, h2, HS2, HG2⟩
            case measure => first | (simp [intOf]; done) | (simp [intOf]; omega)
          | true =>
            rw [hl] at CL
            have HS2 := hide (HS.out.trans (up_stop (.inr (by simp [hl]))))
            clear hl HS
            go_wp2_with fail
            refine CL.out.mono ?_
            rintro r w2 ⟨rfl, b2⟩
            have h2 := hide (HR.out.below b2)
            have HG2 := hide (grown_trans HG.out (grown_of b2))
            clear HR HG b2 cW CL
            go_wp2_with fail
            go_meet
            exact ⟨i, rfl, hai, hij, h2, HS2, HG2⟩
        · have HS2 := hide (HS.out.trans (up_stop (.inl hle)))
          go_wp2_with fail
          go_meet
          exact ⟨i, rfl, hai, hij, HR, HS2, HG⟩
    case rest =>
      clear HR HG
      obtain ⟨I2, rfl, hI3, hI4, HR, HI2, HG⟩ := hcut
      go_upto_block 4 with fail
      go_cut [10] (fun v wx => ∃ j : Nat, v = .int .i64 j ∧ I2 ≤ j + 1 ∧ j ≤ j0 ∧ Hid (RA wx b g N c base dk) ∧ Hid (Sort.scanDown (fun x => ltD dk[a]! x) dk I2 j0 = j) ∧ Hid (W.grownBy wx (some g)))
      case first =>
        go_wp2_with fail
        go_loopw [10] (fun v wx => ∃ j : Nat, v = .int .i64 j ∧ I2 ≤ j + 1 ∧ j ≤ j0 ∧ Hid (RA wx b g N c base dk) ∧ Hid (Sort.scanDown (fun x => ltD dk[a]! x) dk I2 j0 = Sort.scanDown (fun x => ltD dk[a]! x) dk I2 j) ∧ Hid (W.grownBy wx (some g))) (fun v _ => (intOf v).toNat)
        case atStart => exact ⟨j0, by go_num, hI4, Nat.le_refl _, HR, hide rfl, HG⟩
        case round =>
          clear HR HG
          obtain ⟨j, rfl, hIj, hjJ, HR, HS, HG⟩ := hrel
          by_cases hle : I2 ≤ j
          · obtain ⟨m, rfl⟩ : ∃ m, j = m + 1 := ⟨j - 1, by omega⟩
            have CL := hide (ra_less HR.out (i := a) (j := m + 1) (by omega) (by omega) hN)
            have cW := HR.out.rs.cell
            have ec : ((m + 1 : Nat) : Int) = (m : Int) + 1 := by omega
            have t0 : (I2 : Int) ≤ (m : Int) + 1 := by omega
            have t1 : decide ((I2 : Int) ≤ (m : Int) + 1) = true := decide_eq_true t0
            rw [ec] at CL ⊢
            cases hl : ltD dk[a]! dk[m + 1]! with
            | false =>
              rw [hl] at CL
              have HS2 := hide (HS.out.trans (down_stop (.inr (by simp [hl])) (by omega)))
              clear hl HS
              go_wp2_with fail
              refine CL.out.mono ?_
              rintro r w2 ⟨rfl, b2⟩
              have h2 := hide (HR.out.below b2)
              have HG2 := hide (grown_trans HG.out (grown_of b2))
              clear HR HG b2 cW CL
              go_wp2_with fail
              go_meet
              exact ⟨m + 1, by go_num, by omega, by omega, h2, HS2, HG2⟩
            | true =>
              rw [hl] at CL
              have HS2 := hide (HS.out.trans (down_go hle (by simp [hl])))
              clear hl HS
              go_wp2_with fail
              refine CL.out.mono ?_
              rintro r w2 ⟨rfl, b2⟩
              have h2 := hide (HR.out.below b2)
              have HG2 := hide (grown_trans HG.out (grown_of b2))
              clear HR HG b2 cW CL
              go_wp2_with fail
              go_roundw
              case rel => exact ⟨m, by go_num, by omega, by omega, h2, HS2, HG2⟩
              case measure => first | (simp [intOf]; done) | (simp [intOf]; omega)
          · have HS2 := hide (HS.out.trans (down_stop (.inl hle) (by omega)))
            go_wp2_with fail
            go_meet
            exact ⟨j, rfl, hIj, hjJ, HR, HS2, HG⟩
      case rest =>
        clear HR HG
        obtain ⟨J2, rfl, hJ3, hJ4, HR, HJ2, HG⟩ := hcut
        have HPE := hide (show PL = if I2 > J2 then (I2, dk) else Sort.partEqLoop ltD a (I2 + 1) (J2 - 1) (Sort.swp dk I2 J2) by rw [← HPL.out, Sort.partEqLoop_eq, HI2.out, HJ2.out])
        have hap3 : I2 ≤ J2 → I2 < J2 := fun h => scans_apart2 (p := fun x => !ltD dk[a]! x) (q := fun x => ltD dk[a]! x) (fun x => by simp) HI2.out HJ2.out h (by omega) (by omega)
        clear HI2 HJ2 HPL
        by_cases hgt : J2 < I2
        · have HF2 := hide (show PL = (I2, dk) by rw [HPE.out, if_pos hgt])
          clear HPE
          go_wp2_with fail
          rw [HF2.out]
          go_ret
          exact ⟨rfl, HR.out, HG.out⟩
        · have hap4 := hap3 (by omega)
          clear hap3
          obtain ⟨m2, rfl⟩ : ∃ m2, J2 = m2 + 1 := ⟨J2 - 1, by omega⟩
          have CS := hide (ra_swap HR.out (i := I2) (j := m2 + 1) (by omega) (by omega) hN)
          have cW := HR.out.rs.cell
          have ec : ((m2 + 1 : Nat) : Int) = (m2 : Int) + 1 := by omega
          have t0 : ¬ (m2 : Int) + 1 < (I2 : Int) := by omega
          have HP3 := hide (show Sort.partEqLoop ltD a (I2 + 1) m2 (Sort.swp dk I2 (m2 + 1)) = PL by rw [HPE.out, if_neg hgt, Nat.add_sub_cancel])
          rw [ec] at CS ⊢
          clear HPE
          go_wp2_with fail
          refine CS.out.mono ?_
          rintro r w2 ⟨rfl, h2, g2⟩
          have h3 := hide h2
          have g3 := hide (grown_trans HG.out g2)
          clear h2 g2 HR HG cW CS
          go_wp2_with fail
          go_roundw
          case rel => exact ⟨I2 + 1, m2, _, by go_num, by go_num, by omega, by omega, by omega, h3, HP3, g3⟩
          case measure => first | (simp [intOf]; done) | (simp [intOf]; omega)
end
end Go.Proofs.YtfopihlbdceepaaGreat
