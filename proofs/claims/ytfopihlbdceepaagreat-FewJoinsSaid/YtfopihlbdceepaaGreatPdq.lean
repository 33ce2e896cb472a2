/-
  sort.pdqsort over the reversed row: the walk. Conditions: the row; fewer than fifty places.
-/
import Derived.Test.YtfopihlbdceepaaGreatPivot
import Derived.Test.YtfopihlbdceepaaGreatBreak
import Derived.Test.YtfopihlbdceepaaGreatHeap
namespace Go.Proofs.YtfopihlbdceepaaGreat
open Go.RowKit Go.Shelf

abbrev SrtD (a e : Nat) (d R : Array Int) : Prop := Sort.PermIn a e d R ∧ Sort.SortedIn ltD a e R
section
variable {b g N c base : Nat}
set_option maxRecDepth 100000 in
set_option maxHeartbeats 12800000 in
theorem pdq_any (hN : N < 50) : ∀ (n : Nat) {W : World} {d : Array Int} {a e lim : Nat}, e - a = n → RA W b g N c base d → a ≤ e → e ≤ N → lim ≤ 1000 → Sort.Below ltD a e d →
    Calls Tryz.prog 35 #[.iface 76 (.pointer (some ⟨b, 0, none⟩)), .int .i64 a, .int .i64 e, .int .i64 lim] W fun r w' => r = .returned (.tuple #[]) ∧ ∃ d', RA w' b g N c base d' ∧ SrtD a e d d' ∧ W.grownBy w' (some g) := by
  intro n
  induction n using Nat.strongRecOn with
  | _ n ih =>
  intro W d a e lim hn h hae heN hlim hB
  have eL := entersF Tryz.func117 (by kernel_rfl) rfl
  have mL := fun (W' : World) (h' : W'.cell? ⟨b, 0, none⟩ = some (.iface 55 (.slice (some ⟨g, 0, none⟩) N c))) => n_less h'
  have IH := hide ih
  have H := hide h
  have HB := hide hB
  clear ih h hB
  go_enter Tryz.func35, Tryz.ntmps35
  go_wp2_with fail
  go_loopw [1, 2, 3, 8, 9] (fun va vb vl v8 v9 wx => ∃ (a1 e1 l1 : Nat) (wb wp : Bool) (dk : Array Int), va = .int .i64 a1 ∧ vb = .int .i64 e1 ∧ vl = .int .i64 l1 ∧ v8 = .bool wb ∧ v9 = .bool wp ∧ a ≤ a1 ∧ a1 ≤ e1 ∧ e1 ≤ e ∧ l1 ≤ 1000 ∧ Hid (RA wx b g N c base dk) ∧ Hid (Sort.Below ltD a1 e1 dk) ∧ Hid (∀ R, SrtD a1 e1 dk R → SrtD a e d R) ∧ Hid (W.grownBy wx (some g))) (fun va vb _ _ _ _ => (intOf vb - intOf va).toNat)
  case atStart => exact ⟨a, e, lim, true, true, d, rfl, rfl, rfl, rfl, rfl, Nat.le_refl _, hae, Nat.le_refl _, hlim, H, HB, hide (fun R h => h), hide (World.grownBy.refl _ _)⟩
  case round =>
    clear H HB hlim
    obtain ⟨a1, e1, l1, wb, wp, dk, rfl, rfl, rfl, rfl, rfl, ha1, hae1, he1, hl1, HR, HB, HF, HG⟩ := hrel
    have heN1 : e1 ≤ N := by omega
    by_cases h12 : e1 - a1 ≤ 12
    · have CI := hide (is_any HR.out (a := a1) (e := e1) hae1 heN1 (by omega))
      have HI := hide (HF.out _ (Sort.insertionSort_holds swo_ltD dk a1 e1 hae1 (by rw [HR.out.size]; exact heN1)))
      have t0 : (e1 : Int) - (a1 : Int) ≤ 12 := by omega
      clear HF
      go_wp2_with fail
      refine CI.out.mono ?_
      rintro r w2 ⟨rfl, h2, g2⟩
      have H2 := hide h2
      have G2 := hide (grown_trans HG.out g2)
      clear h2 g2 HG HR CI
      go_wp2_with fail
      refine bodyPost_ret (results_none rfl _ _ _) rfl ?_
      exact ⟨rfl, _, H2.out, HI.out, G2.out⟩
    · have t0 : ¬ (e1 : Int) - (a1 : Int) ≤ 12 := by omega
      by_cases hl0 : l1 = 0
      · have CH := hide (heap_any HR.out (a := a1) (e := e1) (by omega) heN1 (by omega))
        have HI := hide (HF.out _ (Sort.heapSort_holds swo_ltD dk a1 e1 hae1 (by rw [HR.out.size]; exact heN1)))
        subst hl0
        clear HF
        go_wp2_with fail
        refine CH.out.mono ?_
        rintro r w2 ⟨rfl, h2, g2⟩
        have H2 := hide h2
        have G2 := hide (grown_trans HG.out g2)
        clear h2 g2 HG HR CH
        go_wp2_with fail
        refine bodyPost_ret (results_none rfl _ _ _) rfl ?_
        exact ⟨rfl, _, H2.out, HI.out, G2.out⟩
      · have t1 : ¬ (l1 : Int) = 0 := by omega
        go_upto_if 35 with fail
        go_cut [3] (fun v3 wx => ∃ (l2 : Nat) (dj : Array Int), v3 = .int .i64 l2 ∧ l2 ≤ 1000 ∧ Hid (RA wx b g N c base dj) ∧ Hid (Sort.PermIn a1 e1 dk dj) ∧ Hid (W.grownBy wx (some g)))
        case first =>
          cases wb with
          | true =>
            go_wp2_with fail
            go_meet
            exact ⟨l1, dk, rfl, hl1, HR, hide (Sort.permIn_refl _ _ _), HG⟩
          | false =>
            have CB := hide (break_any HR.out (a := a1) (e := e1) (by omega) heN1 (by omega))
            obtain ⟨m, rfl⟩ : ∃ m, l1 = m + 1 := ⟨l1 - 1, by omega⟩
            go_wp2_with fail
            refine CB.out.mono ?_
            rintro r w2 ⟨rfl, dj, h2, p2, g2⟩
            have H2 := hide h2
            have P2 := hide p2
            have G2 := hide (grown_trans HG.out g2)
            clear h2 p2 g2 HG HR CB
            go_wp2_with fail
            go_meet
            exact ⟨m, dj, by go_num, by omega, H2, P2, G2⟩
        case rest =>
          clear HR HG
          obtain ⟨l2, dj, rfl, hl2, HR, HP, HG⟩ := hcut
          have HF2 := hide (show ∀ R, SrtD a1 e1 dj R → SrtD a e d R from fun R hR => HF.out R ⟨Sort.permIn_trans _ _ _ _ _ HP.out hR.1, hR.2⟩)
          have HB2 := hide (HB.out.perm (by have := HP.out.1; have := HR.out.size; omega) HP.out)
          clear HF HP HB
          have CP := hide (pivot_any HR.out (a := a1) (e := e1) (by omega) (by omega) heN1 (by omega))
          have hds : dj.size = N := HR.out.size
          obtain ⟨wo, rfl⟩ : ∃ wo : World, wo = wc := ⟨_, rfl⟩
          go_wp2_with fail
          refine CP.out.mono ?_
          rintro r w2 ⟨p, hint, rfl, hp1, hp2, hh, h2, g2⟩
          have H2 := hide h2
          have G2 := hide (grown_trans HG.out g2)
          have hh2 : ¬ hint = 2 := by omega
          clear HR HG CP h2 g2
          go_upto_region 15 with fail
          go_cut [68] (fun v wx => ∃ T : Bool, v = .bool T ∧ w2 = wx)
          case first =>
            cases wb
            all_goals cases wp
            all_goals rcases hh with rfl | rfl
            all_goals go_wp2_with fail
            all_goals go_meet
            all_goals exact ⟨_, rfl, rfl⟩
          case rest =>
            obtain ⟨T, rfl, rfl⟩ := hcut
            clear hh
            go_upto_if 68 with fail
            go_cut [72] (fun _ wx => Hid (RA wx b g N c base dj) ∧ Hid (W.grownBy wx (some g)))
            case first =>
              cases T with
              | false =>
                go_wp2_with fail
                go_meet
                exact ⟨H2, G2⟩
              | true =>
                have CI := hide (pins_any H2.out (a := a1) (e := e1) (by omega) heN1 (by omega) (by omega))
                cases hB : (Sort.partialInsertionSort ltD dj a1 e1).2 with
                | true =>
                  rw [hB] at CI
                  have HI := hide (HF2.out dj ⟨Sort.permIn_refl _ _ _, by
                    have k := (Sort.partialInsertionSort_holds swo_ltD dj a1 e1 (by omega) (by omega) HB2.out).2 hB
                    rwa [pins_is (by omega)] at k⟩)
                  clear hB HF2 HB2
                  go_wp2_with fail
                  refine CI.out.mono ?_
                  rintro r w3 ⟨rfl, h3, g3⟩
                  have H3 := hide h3
                  have G3 := hide (grown_trans G2.out g3)
                  clear h3 g3 H2 G2 CI
                  go_wp2_with fail
                  refine bodyPost_ret (results_none rfl _ _ _) rfl ?_
                  exact ⟨rfl, _, H3.out, HI.out, G3.out⟩
                | false =>
                  rw [hB] at CI
                  clear hB HF2 HB2
                  go_wp2_with fail
                  refine CI.out.mono ?_
                  rintro r w3 ⟨rfl, h3, g3⟩
                  have H3 := hide h3
                  have G3 := hide (grown_trans G2.out g3)
                  clear h3 g3 H2 G2 CI
                  go_wp2_with fail
                  go_meet
                  exact ⟨H3, G3⟩
            case rest =>
              clear H2 G2
              obtain ⟨HR, HG⟩ := hcut
              obtain ⟨wo, rfl⟩ : ∃ wo : World, wo = wc := ⟨_, rfl⟩
              go_upto_region 17 with fail
              go_cut [82] (fun v wx => ∃ C : Bool, v = .bool C ∧ Hid (C = true → 0 < a1 ∧ ltD dj[a1 - 1]! dj[p]! = false) ∧ Hid (RA wx b g N c base dj) ∧ Hid (W.grownBy wx (some g)))
              case first =>
                clear HF2 HB2 IH
                rcases Nat.eq_zero_or_pos a1 with hz | hz
                · have t2 : ¬ 0 < (a1 : Int) := by omega
                  have t3 : decide (0 < (a1 : Int)) = false := decide_eq_false t2
                  have t4 : ¬ 0 < a1 := by omega
                  clear hz
                  go_wp2_with fail
                  go_meet
                  exact ⟨false, rfl, hide (fun h => by cases h), HR, HG⟩
                · have t2 : 0 < (a1 : Int) := by omega
                  have t3 : decide (0 < (a1 : Int)) = true := decide_eq_true t2
                  have ec : (a1 : Int) - 1 = ((a1 - 1 : Nat) : Int) := by omega
                  have CL := hide (ra_less HR.out (i := a1 - 1) (j := p) (by omega) (by omega) (by omega))
                  have cW := HR.out.rs.cell
                  have t5 : IntKind.i64.wrap ((a1 : Int) - 1) = (a1 : Int) - 1 := IntWalk.i64_in _ (by omega)
                  rw [← ec] at CL
                  clear ec
                  cases hl : ltD dj[a1 - 1]! dj[p]! with
                  | false =>
                    rw [hl] at CL
                    have HL := hide hl
                    clear hl
                    go_wp2_with fail
                    refine CL.out.mono ?_
                    rintro r w3 ⟨rfl, b3⟩
                    have H3 := hide (HR.out.below b3)
                    have G3 := hide (grown_trans HG.out (grown_of b3))
                    clear HR HG b3 CL cW
                    go_wp2_with fail
                    go_meet
                    exact ⟨true, rfl, hide (fun _ => ⟨hz, HL.out⟩), H3, G3⟩
                  | true =>
                    rw [hl] at CL
                    clear hl
                    go_wp2_with fail
                    refine CL.out.mono ?_
                    rintro r w3 ⟨rfl, b3⟩
                    have H3 := hide (HR.out.below b3)
                    have G3 := hide (grown_trans HG.out (grown_of b3))
                    clear HR HG b3 CL cW
                    go_wp2_with fail
                    go_meet
                    exact ⟨false, rfl, hide (fun h => by cases h), H3, G3⟩
              case rest =>
                clear HR HG
                obtain ⟨C, rfl, HC, HR, HG⟩ := hcut
                obtain ⟨wo, rfl⟩ : ∃ wo : World, wo = wc := ⟨_, rfl⟩
                cases C with
                | true =>
                  obtain ⟨hz, hnl⟩ := HC.out rfl
                  have CE := hide (parteq_any HR.out (a := a1) (e := e1) (pv := p) hp1 hp2 heN1 (by omega))
                  obtain ⟨PE, hPE⟩ : ∃ PE, Sort.partitionEqual ltD dj a1 e1 p = PE := ⟨_, rfl⟩
                  rw [hPE] at CE
                  obtain ⟨mid, d4⟩ := PE
                  obtain ⟨q1, q2, q3, q4, q5⟩ := Sort.round_eq swo_ltD (Sort.partitionEqual_holds ltD) hz hp1 hp2 (by omega) HB2.out hnl hPE
                  have Q4 := hide q4
                  have HF3 := hide (show ∀ R, SrtD mid e1 d4 R → SrtD a e d R from fun R hR => HF2.out R (q5 R hR.1 hR.2))
                  clear HC hnl hPE q4 q5 HF2 HB2 q3
                  go_wp2_with fail
                  refine CE.out.mono ?_
                  rintro r w3 ⟨rfl, h3, g3⟩
                  have H3 := hide h3
                  have G3 := hide (grown_trans HG.out g3)
                  clear h3 g3 HR HG CE
                  go_wp2_with fail
                  go_roundw
                  case rel => exact ⟨mid, e1, l2, wb, wp, d4, rfl, rfl, rfl, rfl, rfl, by omega, by omega, he1, hl2, H3, Q4, HF3, G3⟩
                  case measure => first | (simp [intOf]; done) | (simp [intOf]; omega)
                | false =>
                  have CE := hide (part_any HR.out (a := a1) (e := e1) (pv := p) hp1 hp2 heN1 (by omega))
                  obtain ⟨PE, hPE⟩ : ∃ PE, Sort.partition ltD dj a1 e1 p = PE := ⟨_, rfl⟩
                  rw [hPE] at CE
                  obtain ⟨mid, ap, d4⟩ := PE
                  obtain ⟨q1, q2, q3, q4, q5, q6, q7⟩ := Sort.round_part swo_ltD (Sort.partition_holds ltD) hp1 hp2 (by omega) HB2.out hPE
                  have Q4 := hide q4
                  have Q5 := hide q5
                  have Q6 := hide q6
                  have Q7 := hide q7
                  clear HC hPE q4 q5 q6 q7 HB2 q3
                  go_wp2_with fail
                  refine CE.out.mono ?_
                  rintro r w3 ⟨rfl, h3, g3⟩
                  have H3 := hide h3
                  have G3 := hide (grown_trans HG.out g3)
                  clear h3 g3 HR HG CE
                  by_cases hlr : mid - a1 < e1 - mid
                  · have t6 : (mid : Int) - (a1 : Int) < (e1 : Int) - (mid : Int) := by omega
                    have CR := hide (IH.out (mid - a1) (by omega) (W := w3) (d := d4) (a := a1) (e := mid) (lim := l2) rfl H3.out q1 (by omega) hl2 Q4.out)
                    clear IH
                    go_wp2_with fail
                    refine CR.out.mono ?_
                    rintro r w4 ⟨rfl, d5, h4, s4, g4⟩
                    have H4 := hide h4
                    have G4 := hide (grown_trans G3.out g4)
                    have Q8 := hide (Q6.out d5 s4.1 s4.2)
                    have Q9 := hide Q8.out.1
                    have HF3 := hide (show ∀ R, SrtD (mid + 1) e1 d5 R → SrtD a e d R from fun R hR => HF2.out R (Q8.out.2 R hR.1 hR.2))
                    clear h4 s4 g4 H3 G3 CR Q4 Q5 Q6 Q7 Q8 HF2
                    go_wp2_with fail
                    go_roundw
                    case rel => exact ⟨mid + 1, e1, l2, _, ap, d5, by go_num, rfl, rfl, rfl, rfl, by omega, by omega, he1, hl2, H4, Q9, HF3, G4⟩
                    case measure => first | (simp [intOf]; done) | (simp [intOf]; omega)
                  · have t6 : ¬ (mid : Int) - (a1 : Int) < (e1 : Int) - (mid : Int) := by omega
                    have ec : ((mid + 1 : Nat) : Int) = (mid : Int) + 1 := by omega
                    have CR := hide (IH.out (e1 - (mid + 1)) (by omega) (W := w3) (d := d4) (a := mid + 1) (e := e1) (lim := l2) rfl H3.out (by omega) heN1 hl2 Q5.out)
                    rw [ec] at CR
                    clear IH ec
                    go_wp2_with fail
                    refine CR.out.mono ?_
                    rintro r w4 ⟨rfl, d5, h4, s4, g4⟩
                    have H4 := hide h4
                    have G4 := hide (grown_trans G3.out g4)
                    have Q8 := hide (Q7.out d5 s4.1 s4.2)
                    have Q9 := hide Q8.out.1
                    have HF3 := hide (show ∀ R, SrtD a1 mid d5 R → SrtD a e d R from fun R hR => HF2.out R (Q8.out.2 R hR.1 hR.2))
                    clear h4 s4 g4 H3 G3 CR Q4 Q5 Q6 Q7 Q8 HF2
                    go_wp2_with fail
                    go_roundw
                    case rel => exact ⟨a1, mid, l2, _, ap, d5, rfl, rfl, rfl, rfl, rfl, ha1, q1, by omega, hl2, H4, Q9, HF3, G4⟩
                    case measure => first | (simp [intOf]; done) | (simp [intOf]; omega)
end
end Go.Proofs.YtfopihlbdceepaaGreat
