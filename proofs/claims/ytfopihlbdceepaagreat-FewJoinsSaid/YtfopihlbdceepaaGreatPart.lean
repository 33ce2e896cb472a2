/-
  sort.partition over the reversed row: the walk. Conditions: the row, the places.
-/
import Derived.Test.YtfopihlbdceepaaGreatRev2
import Derived.Sort.LotC
import Derived.Sort.LotA
import Derived.Deep.DeepCutAuto
import Derived.Deep.CutBlock
import Derived.BigRegion
import Derived.Outline
import Derived.Deep.Cut
namespace Go.Proofs.YtfopihlbdceepaaGreat
open Go.RowKit Go.Shelf

theorem up_go {p : Int → Bool} {d : Array Int} {j i : Nat} (h : i ≤ j) (hp : p d[i]! = true) : Sort.scanUp p d j i = Sort.scanUp p d j (i + 1) := by
  conv => lhs; rw [Sort.scanUp]
  rw [if_pos (by simp [h, hp])]
theorem up_stop {p : Int → Bool} {d : Array Int} {j i : Nat} (h : ¬ i ≤ j ∨ p d[i]! = false) : Sort.scanUp p d j i = i := by
  rw [Sort.scanUp, if_neg]
  rcases h with h | h <;> simp [h]
theorem down_go {p : Int → Bool} {d : Array Int} {j i : Nat} (h : i ≤ j + 1) (hp : p d[j + 1]! = true) : Sort.scanDown p d i (j + 1) = Sort.scanDown p d i j := by
  conv => lhs; rw [Sort.scanDown]
  rw [if_pos (by simp [h, hp])]
theorem down_stop {p : Int → Bool} {d : Array Int} {j i : Nat} (h : ¬ i ≤ j ∨ p d[j]! = false) (h0 : 0 < i) : Sort.scanDown p d i j = j := by
  cases j with
  | zero => rfl
  | succ j =>
    rw [Sort.scanDown, if_neg]
    rcases h with h | h <;> simp [h]
theorem scans_apart {p : Int → Bool} {d : Array Int} {i0 J I j : Nat} (h1 : Sort.scanUp p d J i0 = I) (h2 : Sort.scanDown (fun x => !p x) d I J = j) (h3 : I ≤ j) (hj : j ≤ J) (h0 : 0 < I) : I < j := by
  have s1 := Sort.scanUp_spec p d J _ i0 rfl
  have s2 := Sort.scanDown_spec (fun x => !p x) d I J
  rw [h1] at s1
  rw [h2] at s2
  rcases Nat.lt_or_ge I j with h | h
  · exact h
  · obtain rfl : I = j := by omega
    have e1 := s1.2.2.2 hj
    have e2 := s2.2.2.2 (Nat.le_refl _) h0
    simp only [e1] at e2
    cases e2
section
variable {W : World} {b g N c base : Nat} {d : Array Int}
set_option maxRecDepth 100000 in
set_option maxHeartbeats 6400000 in
theorem part_any (h : RA W b g N c base d) {a e pv : Nat} (hap : a ≤ pv) (hpe : pv < e) (heN : e ≤ N) (hN : N ≤ 1000) :
    Calls Tryz.prog 76 #[.iface 76 (.pointer (some ⟨b, 0, none⟩)), .int .i64 a, .int .i64 e, .int .i64 pv] W fun r w' => r = .returned (.tuple #[.int .i64 ((Sort.partition ltD d a e pv).1 : Nat), .bool (Sort.partition ltD d a e pv).2.1]) ∧ RA w' b g N c base (Sort.partition ltD d a e pv).2.2 ∧ W.grownBy w' (some g) := by
  have eL := entersF Tryz.func117 (by kernel_rfl) rfl
  have eS := entersF Tryz.func115 (by kernel_rfl) rfl
  have mL := fun (W' : World) (h' : W'.cell? ⟨b, 0, none⟩ = some (.iface 55 (.slice (some ⟨g, 0, none⟩) N c))) => n_less h'
  have mS := fun (W' : World) (h' : W'.cell? ⟨b, 0, none⟩ = some (.iface 55 (.slice (some ⟨g, 0, none⟩) N c))) => n_swap h'
  have cW := h.rs.cell
  have CS := hide (ra_swap h (i := a) (j := pv) (by omega) (by omega) hN)
  obtain ⟨J, hJ⟩ : ∃ J, e = J + 1 := ⟨e - 1, by omega⟩
  subst hJ
  have HP := hide (show Sort.partition ltD d a (J + 1) pv = (let d := Sort.swp d a pv
    let i := Sort.scanUp (fun x => ltD x d[a]!) d J (a + 1)
    let j := Sort.scanDown (fun x => !ltD x d[a]!) d i J
    if i > j then (j, true, Sort.swp d j a) else
      let r := Sort.partLoop ltD a (i + 1) (j - 1) (Sort.swp d i j)
      (r.1, false, Sort.swp r.2 r.1 a)) from rfl)
  obtain ⟨D, hD⟩ : ∃ D, Sort.swp d a pv = D := ⟨_, rfl⟩
  rw [hD] at CS HP
  clear h hD
  go_enter Tryz.func76, Tryz.ntmps76
  go_wp2_with fail
  refine CS.out.mono ?_
  rintro r w1 ⟨rfl, h1, g1⟩
  have H1 := hide h1
  have HG1 := hide g1
  clear h1 g1 CS cW
  go_upto_block 0 with fail
  go_cut [10] (fun v wx => ∃ i : Nat, v = .int .i64 i ∧ a + 1 ≤ i ∧ i ≤ J + 1 ∧ Hid (RA wx b g N c base D) ∧ Hid (Sort.scanUp (fun x => ltD x D[a]!) D J (a + 1) = i) ∧ Hid (W.grownBy wx (some g)))
  case first =>
    go_wp2_with fail
    go_loopw [10] (fun v wx => ∃ i : Nat, v = .int .i64 i ∧ a + 1 ≤ i ∧ i ≤ J + 1 ∧ Hid (RA wx b g N c base D) ∧ Hid (Sort.scanUp (fun x => ltD x D[a]!) D J (a + 1) = Sort.scanUp (fun x => ltD x D[a]!) D J i) ∧ Hid (W.grownBy wx (some g))) (fun v _ => J + 1 - (intOf v).toNat)
    case atStart => exact ⟨a + 1, by go_num, Nat.le_refl _, by omega, H1, hide rfl, HG1⟩
    case round =>
      clear H1 HG1
      obtain ⟨i, rfl, hai, hij, HR, HS, HG⟩ := hrel
      by_cases hle : i ≤ J
      · have CL := hide (ra_less HR.out (i := i) (j := a) (by omega) (by omega) hN)
        have cW := HR.out.rs.cell
        cases hl : ltD D[i]! D[a]! with
        | true =>
          rw [hl] at CL
          have HS2 := hide (HS.out.trans (up_go hle hl))
          clear hl HS
          go_wp2_with fail
          refine CL.out.mono ?_
          rintro r w2 ⟨rfl, b2⟩
          have h2 := hide (HR.out.below b2)
          have HG2 := hide (grown_trans HG.out (grown_of b2))
          clear HR HG b2 cW CL
          go_wp2_with fail
          go_roundw
          case rel => exact ⟨i + 1, by go_num, by omega, by omega, h2, HS2, HG2⟩
          case measure => first | (simp [intOf]; done) | (simp [intOf]; omega)
        | false =>
          rw [hl] at CL
          have HS2 := hide (HS.out.trans (up_stop (.inr hl)))
          clear hl HS
          go_wp2_with fail
          refine CL.out.mono ?_
          rintro r w2 ⟨rfl, b2⟩
          have h2 := hide (HR.out.below b2)
          have HG2 := hide (grown_trans HG.out (grown_of b2))
          clear HR HG b2 cW CL
          go_wp2_with fail
          go_meet
          exact ⟨i, rfl, hai, hij, h2, HS2, HG2⟩
      · have HS2 := hide (HS.out.trans (up_stop (.inl hle)))
        go_wp2_with fail
        go_meet
        exact ⟨i, rfl, hai, hij, HR, HS2, HG⟩
  case rest =>
    clear H1 HG1
    obtain ⟨I, rfl, hI1, hI2, HR, HI, HG⟩ := hcut
    go_upto_block 2 with fail
    go_cut [11] (fun v wx => ∃ j : Nat, v = .int .i64 j ∧ I ≤ j + 1 ∧ j ≤ J ∧ Hid (RA wx b g N c base D) ∧ Hid (Sort.scanDown (fun x => !ltD x D[a]!) D I J = j) ∧ Hid (W.grownBy wx (some g)))
    case first =>
      go_wp2_with fail
      go_loopw [11] (fun v wx => ∃ j : Nat, v = .int .i64 j ∧ I ≤ j + 1 ∧ j ≤ J ∧ Hid (RA wx b g N c base D) ∧ Hid (Sort.scanDown (fun x => !ltD x D[a]!) D I J = Sort.scanDown (fun x => !ltD x D[a]!) D I j) ∧ Hid (W.grownBy wx (some g))) (fun v _ => (intOf v).toNat)
      case atStart => exact ⟨J, by go_num, hI2, Nat.le_refl _, HR, hide rfl, HG⟩
      case round =>
        clear HR HG
        obtain ⟨j, rfl, hIj, hjJ, HR, HS, HG⟩ := hrel
        by_cases hle : I ≤ j
        · obtain ⟨m, rfl⟩ : ∃ m, j = m + 1 := ⟨j - 1, by omega⟩
          have CL := hide (ra_less HR.out (i := m + 1) (j := a) (by omega) (by omega) hN)
          have cW := HR.out.rs.cell
          have ec : ((m + 1 : Nat) : Int) = (m : Int) + 1 := by omega
          have t0 : (I : Int) ≤ (m : Int) + 1 := by omega
          have t1 : decide ((I : Int) ≤ (m : Int) + 1) = true := decide_eq_true t0
          rw [ec] at CL ⊢
          cases hl : ltD D[m + 1]! D[a]! with
          | true =>
            rw [hl] at CL
            have HS2 := hide (HS.out.trans (down_stop (.inr (by rw [hl]; rfl)) (by omega)))
            clear hl HS
            go_wp2_with fail
            refine CL.out.mono ?_
            rintro r w2 ⟨rfl, b2⟩
            have h2 := hide (HR.out.below b2)
            have HG2 := hide (grown_trans HG.out (grown_of b2))
            clear HR HG b2 cW CL
            go_wp2_with fail
            go_meet
            exact ⟨m + 1, by go_num, by omega, by omega, h2, HS2, HG2⟩
          | false =>
            rw [hl] at CL
            have HS2 := hide (HS.out.trans (down_go hle (by rw [hl]; rfl)))
            clear hl HS
            go_wp2_with fail
            refine CL.out.mono ?_
            rintro r w2 ⟨rfl, b2⟩
            have h2 := hide (HR.out.below b2)
            have HG2 := hide (grown_trans HG.out (grown_of b2))
            clear HR HG b2 cW CL
            go_wp2_with fail
            go_roundw
            case rel => exact ⟨m, by go_num, by omega, by omega, h2, HS2, HG2⟩
            case measure => first | (simp [intOf]; done) | (simp [intOf]; omega)
        · have HS2 := hide (HS.out.trans (down_stop (.inl hle) (by omega)))
          go_wp2_with fail
          go_meet
          exact ⟨j, rfl, hIj, hjJ, HR, HS2, HG⟩
    case rest =>
      clear HR HG
      obtain ⟨Jd, rfl, hJ1, hJ2, HR, HJ, HG⟩ := hcut
      by_cases hgt : Jd < I
      · have HF := hide (show Sort.partition ltD d a (J + 1) pv = (Jd, true, Sort.swp D Jd a) by
          rw [HP.out]
          (try dsimp only)
          rw [HI.out, HJ.out, if_pos hgt])
        have CS := hide (ra_swap HR.out (i := Jd) (j := a) (by omega) (by omega) hN)
        have cW := HR.out.rs.cell
        go_wp2_with fail
        refine CS.out.mono ?_
        rintro r w2 ⟨rfl, h2, g2⟩
        go_wp2_with fail
        rw [HF.out]
        go_ret2
        exact ⟨rfl, h2, grown_trans HG.out g2⟩
      · have hap2 := scans_apart (p := fun x => ltD x D[a]!) HI.out HJ.out (by omega) (by omega) (by omega)
        have CS := hide (ra_swap HR.out (i := I) (j := Jd) (by omega) (by omega) hN)
        have cW := HR.out.rs.cell
        obtain ⟨m, rfl⟩ : ∃ m, Jd = m + 1 := ⟨Jd - 1, by omega⟩
        obtain ⟨PL, hPL⟩ : ∃ PL, Sort.partLoop ltD a (I + 1) m (Sort.swp D I (m + 1)) = PL := ⟨_, rfl⟩
        have HPL := hide hPL
        have HF := hide (show Sort.partition ltD d a (J + 1) pv = (PL.1, false, Sort.swp PL.2 PL.1 a) by
          rw [HP.out]
          (try dsimp only)
          rw [HI.out, HJ.out, if_neg (by omega), Nat.add_sub_cancel, HPL.out])
        clear hPL
        go_wp2_with fail
        refine CS.out.mono ?_
        rintro r w2 ⟨rfl, h2, g2⟩
        have H2 := hide h2
        have HG2 := hide (grown_trans HG.out g2)
        clear h2 g2 HR HG cW CS HJ HI HP
        go_wp2_with fail
        go_loopw [10, 11] (fun vi vj wx => ∃ (i j : Nat) (dk : Array Int), vi = .int .i64 i ∧ vj = .int .i64 j ∧ a + 1 ≤ i ∧ i ≤ j + 1 ∧ j ≤ J ∧ Hid (RA wx b g N c base dk) ∧ Hid (Sort.partLoop ltD a i j dk = PL) ∧ Hid (W.grownBy wx (some g))) (fun vi vj _ => (intOf vj + 1 - intOf vi).toNat)
        case atStart => exact ⟨I + 1, m, _, by go_num, by go_num, by omega, by omega, by omega, H2, HPL, HG2⟩
        case round =>
          clear H2 HG2 HPL
          obtain ⟨i0, j0, dk, rfl, rfl, hi0, hij0, hj0, HR, HPL, HG⟩ := hrel
          obtain ⟨wo, rfl⟩ : ∃ wo : World, wo = wr := ⟨_, rfl⟩
          go_upto_block 6 with fail
          go_cut [10] (fun v wx => ∃ i : Nat, v = .int .i64 i ∧ i0 ≤ i ∧ i ≤ j0 + 1 ∧ Hid (RA wx b g N c base dk) ∧ Hid (Sort.scanUp (fun x => ltD x dk[a]!) dk j0 i0 = i) ∧ Hid (W.grownBy wx (some g)))
          case first =>
            go_wp2_with fail
            go_loopw [10] (fun v wx => ∃ i : Nat, v = .int .i64 i ∧ i0 ≤ i ∧ i ≤ j0 + 1 ∧ Hid (RA wx b g N c base dk) ∧ Hid (Sort.scanUp (fun x => ltD x dk[a]!) dk j0 i0 = Sort.scanUp (fun x => ltD x dk[a]!) dk j0 i) ∧ Hid (W.grownBy wx (some g))) (fun v _ => j0 + 1 - (intOf v).toNat)
            case atStart => exact ⟨i0, by go_num, Nat.le_refl _, by omega, HR, hide rfl, HG⟩
            case round =>
              clear HR HG
              obtain ⟨i, rfl, hai, hij, HR, HS, HG⟩ := hrel
              by_cases hle : i ≤ j0
              · have CL := hide (ra_less HR.out (i := i) (j := a) (by omega) (by omega) hN)
                have cW := HR.out.rs.cell
                cases hl : ltD dk[i]! dk[a]! with
                | true =>
                  rw [hl] at CL
                  have HS2 := hide (HS.out.trans (up_go hle hl))
                  clear hl HS
                  go_wp2_with fail
                  refine CL.out.mono ?_
                  rintro r w2 ⟨rfl, b2⟩
                  have h2 := hide (HR.out.below b2)
                  have HG2 := hide (grown_trans HG.out (grown_of b2))
                  clear HR HG b2 cW CL
                  go_wp2_with fail
                  go_roundw
                  case rel => exact ⟨i + 1, by go_num, by omega, by omega, h2, HS2, HG2⟩
                  case measure => first | (simp [intOf]; done) | (simp [intOf]; omega)
                | false =>
                  rw [hl] at CL
                  have HS2 := hide (HS.out.trans (up_stop (.inr hl)))
                  clear hl HS
                  go_wp2_with fail
                  refine CL.out.mono ?_
                  rintro r w2 ⟨rfl, b2⟩
                  have h2 := hide (HR.out.below b2)
                  have HG2 := hide (grown_trans HG.out (grown_of b2))
                  clear HR HG b2 cW CL
                  go_wp2_with fail
                  go_meet
                  exact ⟨i, rfl, hai, hij, h2, HS2, HG2⟩
              · have HS2 := hide (HS.out.trans (up_stop (.inl hle)))
                go_wp2_with fail
                go_meet
                exact ⟨i, rfl, hai, hij, HR, HS2, HG⟩
          case rest =>
            clear HR HG
            obtain ⟨I2, rfl, hI3, hI4, HR, HI2, HG⟩ := hcut
            go_upto_block 8 with fail
            go_cut [11] (fun v wx => ∃ j : Nat, v = .int .i64 j ∧ I2 ≤ j + 1 ∧ j ≤ j0 ∧ Hid (RA wx b g N c base dk) ∧ Hid (Sort.scanDown (fun x => !ltD x dk[a]!) dk I2 j0 = j) ∧ Hid (W.grownBy wx (some g)))
            case first =>
              go_wp2_with fail
              go_loopw [11] (fun v wx => ∃ j : Nat, v = .int .i64 j ∧ I2 ≤ j + 1 ∧ j ≤ j0 ∧ Hid (RA wx b g N c base dk) ∧ Hid (Sort.scanDown (fun x => !ltD x dk[a]!) dk I2 j0 = Sort.scanDown (fun x => !ltD x dk[a]!) dk I2 j) ∧ Hid (W.grownBy wx (some g))) (fun v _ => (intOf v).toNat)
              case atStart => exact ⟨j0, by go_num, hI4, Nat.le_refl _, HR, hide rfl, HG⟩
              case round =>
                clear HR HG
                obtain ⟨j, rfl, hIj, hjJ, HR, HS, HG⟩ := hrel
                by_cases hle : I2 ≤ j
                · obtain ⟨m, rfl⟩ : ∃ m, j = m + 1 := ⟨j - 1, by omega⟩
                  have CL := hide (ra_less HR.out (i := m + 1) (j := a) (by omega) (by omega) hN)
                  have cW := HR.out.rs.cell
                  have ec : ((m + 1 : Nat) : Int) = (m : Int) + 1 := by omega
                  have t0 : (I2 : Int) ≤ (m : Int) + 1 := by omega
                  have t1 : decide ((I2 : Int) ≤ (m : Int) + 1) = true := decide_eq_true t0
                  rw [ec] at CL ⊢
                  cases hl : ltD dk[m + 1]! dk[a]! with
                  | true =>
                    rw [hl] at CL
                    have HS2 := hide (HS.out.trans (down_stop (.inr (by rw [hl]; rfl)) (by omega)))
                    clear hl HS
                    go_wp2_with fail
                    refine CL.out.mono ?_
                    rintro r w2 ⟨rfl, b2⟩
                    have h2 := hide (HR.out.below b2)
                    have HG2 := hide (grown_trans HG.out (grown_of b2))
                    clear HR HG b2 cW CL
                    go_wp2_with fail
                    go_meet
                    exact ⟨m + 1, by go_num, by omega, by omega, h2, HS2, HG2⟩
                  | false =>
                    rw [hl] at CL
                    have HS2 := hide (HS.out.trans (down_go hle (by rw [hl]; rfl)))
                    clear hl HS
                    go_wp2_with fail
                    refine CL.out.mono ?_
                    rintro r w2 ⟨rfl, b2⟩
                    have h2 := hide (HR.out.below b2)
                    have HG2 := hide (grown_trans HG.out (grown_of b2))
                    clear HR HG b2 cW CL
                    go_wp2_with fail
                    go_roundw
                    case rel => exact ⟨m, by go_num, by omega, by omega, h2, HS2, HG2⟩
                    case measure => first | (simp [intOf]; done) | (simp [intOf]; omega)
                · have HS2 := hide (HS.out.trans (down_stop (.inl hle) (by omega)))
                  go_wp2_with fail
                  go_meet
                  exact ⟨j, rfl, hIj, hjJ, HR, HS2, HG⟩
            case rest =>
              clear HR HG
              obtain ⟨J2, rfl, hJ3, hJ4, HR, HJ2, HG⟩ := hcut
              have HPE := hide (show PL = if I2 > J2 then (J2, dk) else Sort.partLoop ltD a (I2 + 1) (J2 - 1) (Sort.swp dk I2 J2) by rw [← HPL.out, Sort.partLoop_eq, HI2.out, HJ2.out])
              have hap3 : I2 ≤ J2 → I2 < J2 := fun h => scans_apart (p := fun x => ltD x dk[a]!) HI2.out HJ2.out h (by omega) (by omega)
              clear HI2 HJ2 HPL
              by_cases hgt : J2 < I2
              · have HF2 := hide (show PL = (J2, dk) by rw [HPE.out, if_pos hgt])
                have CS := hide (ra_swap HR.out (i := J2) (j := a) (by omega) (by omega) hN)
                have cW := HR.out.rs.cell
                clear HPE
                go_wp2_with fail
                refine CS.out.mono ?_
                rintro r w2 ⟨rfl, h2, g2⟩
                have h3 := hide h2
                have g3 := hide (grown_trans HG.out g2)
                clear h2 g2 HR HG cW CS
                go_wp2_with fail
                rw [HF.out, HF2.out]
                go_ret2
                exact ⟨rfl, h3.out, g3.out⟩
              · have hap4 := hap3 (by omega)
                clear hap3
                obtain ⟨m2, rfl⟩ : ∃ m2, J2 = m2 + 1 := ⟨J2 - 1, by omega⟩
                have CS := hide (ra_swap HR.out (i := I2) (j := m2 + 1) (by omega) (by omega) hN)
                have cW := HR.out.rs.cell
                have ec : ((m2 + 1 : Nat) : Int) = (m2 : Int) + 1 := by omega
                have t0 : ¬ (m2 : Int) + 1 < (I2 : Int) := by omega
                have HP3 := hide (show Sort.partLoop ltD a (I2 + 1) m2 (Sort.swp dk I2 (m2 + 1)) = PL by rw [HPE.out, if_neg hgt, Nat.add_sub_cancel])
                rw [ec] at CS ⊢
                clear HPE
                go_wp2_with fail
                refine CS.out.mono ?_
                rintro r w2 ⟨rfl, h2, g2⟩
                have h3 := hide h2
                have g3 := hide (grown_trans HG.out g2)
                clear h2 g2 HR HG cW CS
                go_wp2_with fail
                go_roundw
                case rel => exact ⟨I2 + 1, m2, _, by go_num, by go_num, by omega, by omega, by omega, h3, HP3, g3⟩
                case measure => first | (simp [intOf]; done) | (simp [intOf]; omega)
end
end Go.Proofs.YtfopihlbdceepaaGreat
