/-
  sort.siftDown and sort.heapSort over the reversed row: the walks. Conditions: the row, the places.
-/
import Derived.Test.YtfopihlbdceepaaGreatPins
import Derived.Sort.LotB
namespace Go.Proofs.YtfopihlbdceepaaGreat
open Go.RowKit Go.Shelf

theorem sift_end {d : Array Int} {hi first root : Nat} (h : hi ≤ 2 * root + 1) : Sort.siftDown ltD hi first root d = d := by rw [Sort.siftDown, dif_pos h]
theorem sift_left {d : Array Int} {hi first root : Nat} (h : ¬ hi ≤ 2 * root + 1) (h2 : ¬ 2 * root + 1 + 1 < hi ∨ ltD d[first + (2 * root + 1)]! d[first + (2 * root + 1) + 1]! = false) :
    Sort.siftDown ltD hi first root d = if ltD d[first + root]! d[first + (2 * root + 1)]! = true then Sort.siftDown ltD hi first (2 * root + 1) (Sort.swp d (first + root) (first + (2 * root + 1))) else d := by
  conv => lhs; rw [Sort.siftDown]
  rw [dif_neg h, if_neg (by rcases h2 with h2 | h2 <;> simp [h2])]
  cases ltD d[first + root]! d[first + (2 * root + 1)]! <;> simp
theorem sift_right {d : Array Int} {hi first root : Nat} (h : ¬ hi ≤ 2 * root + 1) (h2 : 2 * root + 1 + 1 < hi) (h3 : ltD d[first + (2 * root + 1)]! d[first + (2 * root + 1) + 1]! = true) :
    Sort.siftDown ltD hi first root d = if ltD d[first + root]! d[first + (2 * root + 2)]! = true then Sort.siftDown ltD hi first (2 * root + 2) (Sort.swp d (first + root) (first + (2 * root + 2))) else d := by
  conv => lhs; rw [Sort.siftDown]
  rw [dif_neg h, if_pos (by simp [h2, h3])]
  cases ltD d[first + root]! d[first + (2 * root + 2)]! with
  | false => simp
  | true => rw [dif_pos (by omega)]; simp
section
variable {W : World} {b g N c base : Nat} {d : Array Int}
set_option maxRecDepth 100000 in
set_option maxHeartbeats 6400000 in
theorem sift_any (h : RA W b g N c base d) {lo hi first : Nat} (hfN : first + hi ≤ N) (hN : N ≤ 1000) (hlo : lo ≤ 1000) :
    Calls Tryz.prog 89 #[.iface 76 (.pointer (some ⟨b, 0, none⟩)), .int .i64 lo, .int .i64 hi, .int .i64 first] W fun r w' => r = .returned (.tuple #[]) ∧ RA w' b g N c base (Sort.siftDown ltD hi first lo d) ∧ W.grownBy w' (some g) := by
  have eL := entersF Tryz.func117 (by kernel_rfl) rfl
  have eS := entersF Tryz.func115 (by kernel_rfl) rfl
  have mL := fun (W' : World) (h' : W'.cell? ⟨b, 0, none⟩ = some (.iface 55 (.slice (some ⟨g, 0, none⟩) N c))) => n_less h'
  have mS := fun (W' : World) (h' : W'.cell? ⟨b, 0, none⟩ = some (.iface 55 (.slice (some ⟨g, 0, none⟩) N c))) => n_swap h'
  have H := hide h
  clear h
  go_enter Tryz.func89, Tryz.ntmps89
  go_wp2_with fail
  go_loopw [8] (fun v wx => ∃ (root : Nat) (dk : Array Int), v = .int .i64 root ∧ root ≤ 1000 ∧ Hid (RA wx b g N c base dk) ∧ Hid (Sort.siftDown ltD hi first lo d = Sort.siftDown ltD hi first root dk) ∧ Hid (W.grownBy wx (some g))) (fun v _ => hi + 1 - (intOf v).toNat)
  case atStart => exact ⟨lo, d, rfl, hlo, H, hide rfl, hide (World.grownBy.refl _ _)⟩
  case round =>
    clear H
    obtain ⟨root, dk, rfl, hr, HR, HS, HG⟩ := hrel
    by_cases hend : hi ≤ 2 * root + 1
    · have HF := hide (HS.out.trans (sift_end hend))
      have t0 : (hi : Int) ≤ 2 * (root : Int) + 1 := by omega
      go_wp2_with fail
      rw [HF.out]
      go_end0
      exact ⟨rfl, HR.out, HG.out⟩
    · have t0 : ¬ (hi : Int) ≤ 2 * (root : Int) + 1 := by omega
      obtain ⟨wo, rfl⟩ : ∃ wo : World, wo = wr := ⟨_, rfl⟩
      go_upto_region 3 with fail
      go_cut [31] (fun v wx => v = .bool (decide (2 * root + 1 + 1 < hi) && ltD dk[first + (2 * root + 1)]! dk[first + (2 * root + 1) + 1]!) ∧ Hid (RA wx b g N c base dk) ∧ Hid (W.grownBy wx (some g)))
      case first =>
        by_cases hc : 2 * root + 1 + 1 < hi
        · have e1 : ((first + (2 * root + 1) : Nat) : Int) = (first : Int) + (2 * (root : Int) + 1) := by omega
          have e2 : ((first + (2 * root + 1) + 1 : Nat) : Int) = (first : Int) + (2 * (root : Int) + 1) + 1 := by omega
          have CL := hide (ra_less HR.out (i := first + (2 * root + 1)) (j := first + (2 * root + 1) + 1) (by omega) (by omega) hN)
          have cW := HR.out.rs.cell
          rw [e1, e2] at CL
          obtain ⟨T, hT⟩ : ∃ T, ltD dk[first + (2 * root + 1)]! dk[first + (2 * root + 1) + 1]! = T := ⟨_, rfl⟩
          rw [hT] at CL
          have HT := hide (show (decide (2 * root + 1 + 1 < hi) && ltD dk[first + (2 * root + 1)]! dk[first + (2 * root + 1) + 1]!) = T by rw [decide_eq_true hc, Bool.true_and, hT])
          clear hT
          have t1 : 2 * (root : Int) + 1 + 1 < (hi : Int) := by omega
          clear e1 e2 hc HS
          go_wp2_with fail
          refine CL.out.mono ?_
          rintro r w2 ⟨rfl, b2⟩
          have h2 := hide (HR.out.below b2)
          have HG2 := hide (grown_trans HG.out (grown_of b2))
          clear HR HG b2 cW CL
          go_wp2_with fail
          go_meet
          exact ⟨by rw [HT.out], h2, HG2⟩
        · have HT := hide (show (decide (2 * root + 1 + 1 < hi) && ltD dk[first + (2 * root + 1)]! dk[first + (2 * root + 1) + 1]!) = false by rw [decide_eq_false hc, Bool.false_and])
          have t1 : ¬ 2 * (root : Int) + 1 + 1 < (hi : Int) := by omega
          go_wp2_with fail
          go_meet
          exact ⟨by rw [HT.out], HR, HG⟩
      case rest =>
        clear HR HG
        obtain ⟨rfl, HR, HG⟩ := hcut
        cases hT : (decide (2 * root + 1 + 1 < hi) && ltD dk[first + (2 * root + 1)]! dk[first + (2 * root + 1) + 1]!) with
        | false =>
          have HE := hide (sift_left (d := dk) (first := first) hend (by rw [Bool.and_eq_false_iff, decide_eq_false_iff_not] at hT; exact hT))
          clear hT
          have ei : ((first + root : Nat) : Int) = (first : Int) + (root : Int) := by omega
          have ej : ((first + (2 * root + 1) : Nat) : Int) = (first : Int) + (2 * (root : Int) + 1) := by omega
          have CL := hide (ra_less HR.out (i := first + root) (j := first + (2 * root + 1)) (by omega) (by omega) hN)
          have cW := HR.out.rs.cell
          rw [ei, ej] at CL
          cases hl : ltD dk[first + root]! dk[first + (2 * root + 1)]! with
          | false =>
            rw [hl] at CL
            have HF := hide (show Sort.siftDown ltD hi first lo d = dk by rw [HS.out, HE.out, hl]; rfl)
            clear hl HE HS
            go_wp2_with fail
            refine CL.out.mono ?_
            rintro r w2 ⟨rfl, b2⟩
            have h2 := hide (HR.out.below b2)
            have HG2 := hide (grown_trans HG.out (grown_of b2))
            clear HR HG b2 cW CL
            go_wp2_with fail
            rw [HF.out]
            refine bodyPost_ret (results_none rfl _ _ _) rfl ?_
            exact ⟨rfl, h2.out, HG2.out⟩
          | true =>
            rw [hl] at CL
            have HF := hide (show Sort.siftDown ltD hi first lo d = Sort.siftDown ltD hi first (2 * root + 1) (Sort.swp dk (first + root) (first + (2 * root + 1))) by rw [HS.out, HE.out, hl]; rfl)
            clear hl HE HS
            go_wp2_with fail
            refine CL.out.mono ?_
            rintro r w2 ⟨rfl, b2⟩
            have h2 := hide (HR.out.below b2)
            have HG2 := hide (grown_trans HG.out (grown_of b2))
            have CS := hide (ra_swap h2.out (i := first + root) (j := first + (2 * root + 1)) (by omega) (by omega) hN)
            rw [ei, ej] at CS
            clear HR HG b2 cW CL
            have cW := h2.out.rs.cell
            go_wp2_with fail
            refine CS.out.mono ?_
            rintro r w3 ⟨rfl, h3, g3⟩
            have H3 := hide h3
            have HG3 := hide (grown_trans HG2.out g3)
            clear h2 HG2 h3 g3 cW CS
            go_wp2_with fail
            go_roundw
            case rel => exact ⟨2 * root + 1, _, by congr 1; first | done | (push_cast; omega) | omega, by omega, H3, HF, HG3⟩
            case measure => first | (simp [intOf]; done) | (simp [intOf]; omega)
        | true =>
          rw [Bool.and_eq_true, decide_eq_true_eq] at hT
          have HE := hide (sift_right (d := dk) (first := first) hend hT.1 hT.2)
          have hT1 := hT.1
          clear hT
          have ei : ((first + root : Nat) : Int) = (first : Int) + (root : Int) := by omega
          have ej : ((first + (2 * root + 2) : Nat) : Int) = (first : Int) + (2 * (root : Int) + 2) := by omega
          have CL := hide (ra_less HR.out (i := first + root) (j := first + (2 * root + 2)) (by omega) (by omega) hN)
          have cW := HR.out.rs.cell
          rw [ei, ej] at CL
          cases hl : ltD dk[first + root]! dk[first + (2 * root + 2)]! with
          | false =>
            rw [hl] at CL
            have HF := hide (show Sort.siftDown ltD hi first lo d = dk by rw [HS.out, HE.out, hl]; rfl)
            clear hl HE HS
            go_wp2_with fail
            refine CL.out.mono ?_
            rintro r w2 ⟨rfl, b2⟩
            have h2 := hide (HR.out.below b2)
            have HG2 := hide (grown_trans HG.out (grown_of b2))
            clear HR HG b2 cW CL
            go_wp2_with fail
            rw [HF.out]
            refine bodyPost_ret (results_none rfl _ _ _) rfl ?_
            exact ⟨rfl, h2.out, HG2.out⟩
          | true =>
            rw [hl] at CL
            have HF := hide (show Sort.siftDown ltD hi first lo d = Sort.siftDown ltD hi first (2 * root + 2) (Sort.swp dk (first + root) (first + (2 * root + 2))) by rw [HS.out, HE.out, hl]; rfl)
            clear hl HE HS
            go_wp2_with fail
            refine CL.out.mono ?_
            rintro r w2 ⟨rfl, b2⟩
            have h2 := hide (HR.out.below b2)
            have HG2 := hide (grown_trans HG.out (grown_of b2))
            have CS := hide (ra_swap h2.out (i := first + root) (j := first + (2 * root + 2)) (by omega) (by omega) hN)
            rw [ei, ej] at CS
            clear HR HG b2 cW CL
            have cW := h2.out.rs.cell
            go_wp2_with fail
            refine CS.out.mono ?_
            rintro r w3 ⟨rfl, h3, g3⟩
            have H3 := hide h3
            have HG3 := hide (grown_trans HG2.out g3)
            clear h2 HG2 h3 g3 cW CS
            go_wp2_with fail
            go_roundw
            case rel => exact ⟨2 * root + 2, _, by congr 1; first | done | (push_cast; omega) | omega, by omega, H3, HF, HG3⟩
            case measure => first | (simp [intOf]; done) | (simp [intOf]; omega)
set_option maxRecDepth 100000 in
set_option maxHeartbeats 6400000 in
theorem heap_any (h : RA W b g N c base d) {a e : Nat} (hae : a < e) (heN : e ≤ N) (hN : N ≤ 1000) :
    Calls Tryz.prog 70 #[.iface 76 (.pointer (some ⟨b, 0, none⟩)), .int .i64 a, .int .i64 e] W fun r w' => r = .returned (.tuple #[]) ∧ RA w' b g N c base (Sort.heapSort ltD d a e) ∧ W.grownBy w' (some g) := by
  obtain ⟨L, rfl⟩ : ∃ L, e = a + L := ⟨e - a, by omega⟩
  have eS := entersF Tryz.func115 (by kernel_rfl) rfl
  have mS := fun (W' : World) (h' : W'.cell? ⟨b, 0, none⟩ = some (.iface 55 (.slice (some ⟨g, 0, none⟩) N c))) => n_swap h'
  have t0 : (a : Int) + (L : Int) - (a : Int) = (L : Int) := by omega
  have HH := hide (show Sort.heapSort ltD d a (a + L) = Sort.heapPop ltD a L (Sort.heapBuild ltD L a ((L - 1) / 2 + 1) d) by unfold Sort.heapSort; rw [Nat.add_sub_cancel_left])
  have H := hide h
  clear h
  rw [show ((a + L : Nat) : Int) = (a : Int) + (L : Int) by omega]
  go_enter Tryz.func70, Tryz.ntmps70
  go_wp2_with fail
  go_loopw [9] (fun v wx => ∃ (k : Nat) (dk : Array Int), v = .int .i64 ((k : Int) - 1) ∧ k ≤ 1000 ∧ Hid (RA wx b g N c base dk) ∧ Hid (Sort.heapBuild ltD L a ((L - 1) / 2 + 1) d = Sort.heapBuild ltD L a k dk) ∧ Hid (W.grownBy wx (some g))) (fun v _ => (intOf v + 1).toNat)
  case atStart => exact ⟨(L - 1) / 2 + 1, d, by congr 1; push_cast; omega, by omega, H, hide rfl, hide (World.grownBy.refl _ _)⟩
  case round =>
    clear H
    obtain ⟨k, dk, rfl, hk, HR, HB, HG⟩ := hrel
    rcases Nat.eq_zero_or_pos k with hk0 | hk0
    · subst hk0
      have HB2 := hide (show Sort.heapSort ltD d a (a + L) = Sort.heapPop ltD a L dk by rw [HH.out, HB.out]; rfl)
      obtain ⟨wo, rfl⟩ : ∃ wo : World, wo = wr := ⟨_, rfl⟩
      clear HB HH
      rw [show (((0 : Nat) : Int) - 1) = -1 from rfl]
      go_wp2_with fail
      go_loopw [10] (fun v wx => ∃ (k : Nat) (dk : Array Int), v = .int .i64 ((k : Int) - 1) ∧ k ≤ L ∧ Hid (RA wx b g N c base dk) ∧ Hid (Sort.heapSort ltD d a (a + L) = Sort.heapPop ltD a k dk) ∧ Hid (W.grownBy wx (some g))) (fun v _ => (intOf v + 1).toNat)
      case atStart => exact ⟨L, dk, by first | rfl | (congr 1; push_cast; omega), Nat.le_refl _, HR, HB2, HG⟩
      case round =>
        clear HR HB2 HG
        obtain ⟨k, dk, rfl, hk, HR, HB, HG⟩ := hrel
        rcases Nat.eq_zero_or_pos k with hk0 | hk0
        · subst hk0
          have HF := hide (show Sort.heapSort ltD d a (a + L) = dk from HB.out)
          rw [show (((0 : Nat) : Int) - 1) = -1 from rfl]
          go_wp2_with fail
          rw [HF.out]
          go_end0
          exact ⟨rfl, HR.out, HG.out⟩
        · obtain ⟨m, rfl⟩ : ∃ m, k = m + 1 := ⟨k - 1, by omega⟩
          rw [show ((m + 1 : Nat) : Int) - 1 = (m : Int) by omega]
          have ei : ((a + m : Nat) : Int) = (a : Int) + (m : Int) := by omega
          have CS := hide (ra_swap HR.out (i := a) (j := a + m) (by omega) (by omega) hN)
          rw [ei] at CS
          have HB2 := hide (show Sort.heapSort ltD d a (a + L) = Sort.heapPop ltD a m (Sort.siftDown ltD m a 0 (Sort.swp dk a (a + m))) from HB.out)
          have cW := HR.out.rs.cell
          clear HB
          go_wp2_with fail
          refine CS.out.mono ?_
          rintro r w2 ⟨rfl, h2, g2⟩
          have CD := hide (sift_any h2 (lo := 0) (hi := m) (first := a) (by omega) hN (by omega))
          have HG2 := hide (grown_trans HG.out g2)
          clear h2 g2 HR HG cW CS
          go_wp2_with fail
          refine CD.out.mono ?_
          rintro r w3 ⟨rfl, h3, g3⟩
          have H3 := hide h3
          have HG3 := hide (grown_trans HG2.out g3)
          clear h3 g3 HG2 CD
          go_wp2_with fail
          go_roundw
          case rel => exact ⟨m, _, by go_num, by omega, H3, HB2, HG3⟩
          case measure => first | (simp [intOf]; done) | (simp [intOf]; omega)
    · obtain ⟨m, rfl⟩ : ∃ m, k = m + 1 := ⟨k - 1, by omega⟩
      rw [show ((m + 1 : Nat) : Int) - 1 = (m : Int) by omega]
      have CD := hide (sift_any HR.out (lo := m) (hi := L) (first := a) (by omega) hN (by omega))
      have HB2 := hide (show Sort.heapBuild ltD L a ((L - 1) / 2 + 1) d = Sort.heapBuild ltD L a m (Sort.siftDown ltD L a m dk) from HB.out)
      clear HB
      go_wp2_with fail
      refine CD.out.mono ?_
      rintro r w3 ⟨rfl, h3, g3⟩
      have H3 := hide h3
      have HG3 := hide (grown_trans HG.out g3)
      clear h3 g3 HG CD HR
      go_wp2_with fail
      go_roundw
      case rel => exact ⟨m, _, by go_num, by omega, H3, HB2, HG3⟩
      case measure => first | (simp [intOf]; done) | (simp [intOf]; omega)
end
end Go.Proofs.YtfopihlbdceepaaGreat
