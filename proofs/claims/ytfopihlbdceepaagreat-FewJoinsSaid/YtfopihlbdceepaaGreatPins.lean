/-
  sort.partialInsertionSort, order2, median, choosePivot over the reversed row: the walks. Conditions: the row; fewer than fifty places.
-/
import Derived.Test.YtfopihlbdceepaaGreatPartE
namespace Go.Proofs.YtfopihlbdceepaaGreat
open Go.RowKit Go.Shelf

theorem sorted_go {d : Array Int} {e i : Nat} (h : i < e) (hp : ltD d[i]! d[i - 1]! = false) : Sort.scanSorted ltD d e i = Sort.scanSorted ltD d e (i + 1) := by
  conv => lhs; rw [Sort.scanSorted]
  rw [if_pos (by simp [h, hp])]
theorem sorted_stop {d : Array Int} {e i : Nat} (h : ¬ i < e ∨ ltD d[i]! d[i - 1]! = true) : Sort.scanSorted ltD d e i = i := by
  rw [Sort.scanSorted, if_neg]
  rcases h with h | h <;> simp [h]
theorem pins_is {d : Array Int} {a e : Nat} (h : e - a < 50) : Sort.partialInsertionSort ltD d a e = (d, decide (Sort.scanSorted ltD d e (a + 1) = e)) := by
  show (if Sort.scanSorted ltD d e (a + 1) = e then (d, true) else if e - a < 50 then (d, false) else _) = _
  by_cases hs : Sort.scanSorted ltD d e (a + 1) = e
  · rw [if_pos hs, decide_eq_true hs]
  · rw [if_neg hs, if_pos h, decide_eq_false hs]
section
variable {W : World} {b g N c base : Nat} {d : Array Int}
set_option maxRecDepth 100000 in
set_option maxHeartbeats 6400000 in
theorem pins_any (h : RA W b g N c base d) {a e : Nat} (hae : a < e) (heN : e ≤ N) (hN : N ≤ 1000) (h50 : e - a < 50) :
    Calls Tryz.prog 74 #[.iface 76 (.pointer (some ⟨b, 0, none⟩)), .int .i64 a, .int .i64 e] W fun r w' => r = .returned (.bool (Sort.partialInsertionSort ltD d a e).2) ∧ RA w' b g N c base d ∧ W.grownBy w' (some g) := by
  have eL := entersF Tryz.func117 (by kernel_rfl) rfl
  have mL := fun (W' : World) (h' : W'.cell? ⟨b, 0, none⟩ = some (.iface 55 (.slice (some ⟨g, 0, none⟩) N c))) => n_less h'
  have HPI := hide (pins_is (d := d) h50)
  have H := hide h
  have t50 : (e : Int) - (a : Int) < 50 := by omega
  clear h
  go_enter Tryz.func74, Tryz.ntmps74
  go_wp2_with fail
  go_loopw [7, 8] (fun vi vj wr => vi = .int .i64 ((a : Int) + 1) ∧ vj = .int .i64 0 ∧ Hid (RA wr b g N c base d) ∧ Hid (W.grownBy wr (some g))) (fun _ _ _ => 0)
  case atStart => exact ⟨rfl, rfl, H, hide (World.grownBy.refl _ _)⟩
  case round =>
    clear H
    obtain ⟨rfl, rfl, HR, HG⟩ := hrel
    obtain ⟨wo, rfl⟩ : ∃ wo : World, wo = wr := ⟨_, rfl⟩
    go_upto_block 2 with fail
    go_cut [7] (fun v wx => ∃ i : Nat, v = .int .i64 i ∧ a + 1 ≤ i ∧ i ≤ e ∧ Hid (RA wx b g N c base d) ∧ Hid (Sort.scanSorted ltD d e (a + 1) = i) ∧ Hid (W.grownBy wx (some g)))
    case first =>
      go_wp2_with fail
      go_loopw [7] (fun v wx => ∃ i : Nat, v = .int .i64 i ∧ a + 1 ≤ i ∧ i ≤ e ∧ Hid (RA wx b g N c base d) ∧ Hid (Sort.scanSorted ltD d e (a + 1) = Sort.scanSorted ltD d e i) ∧ Hid (W.grownBy wx (some g))) (fun v _ => e + 1 - (intOf v).toNat)
      case atStart => exact ⟨a + 1, by go_num, Nat.le_refl _, by omega, HR, hide rfl, HG⟩
      case round =>
        clear HR HG
        obtain ⟨i, rfl, hai, hie, HR, HS, HG⟩ := hrel
        by_cases hle : i < e
        · obtain ⟨m, rfl⟩ : ∃ m, i = m + 1 := ⟨i - 1, by omega⟩
          have CL := hide (ra_less HR.out (i := m + 1) (j := m) (by omega) (by omega) hN)
          have cW := HR.out.rs.cell
          have ec : ((m + 1 : Nat) : Int) = (m : Int) + 1 := by omega
          have t0 : (m : Int) + 1 < (e : Int) := by omega
          have t1 : ((m : Int) + 1) - 1 = (m : Int) := by omega
          have t2 : IntKind.i64.wrap (m : Int) = (m : Int) := IntWalk.i64_in _ (by omega)
          rw [ec] at CL ⊢
          cases hl : ltD d[m + 1]! d[m]! with
          | true =>
            rw [hl] at CL
            have HS2 := hide (HS.out.trans (sorted_stop (.inr hl)))
            clear hl HS
            go_wp2_with fail
            refine CL.out.mono ?_
            rintro r w2 ⟨rfl, b2⟩
            have h2 := hide (HR.out.below b2)
            have HG2 := hide (grown_trans HG.out (grown_of b2))
            clear HR HG b2 cW CL
            go_wp2_with fail
            go_meet
            exact ⟨m + 1, by go_num, by omega, by omega, h2, HS2, HG2⟩
          | false =>
            rw [hl] at CL
            have HS2 := hide (HS.out.trans (sorted_go hle hl))
            clear hl HS
            go_wp2_with fail
            refine CL.out.mono ?_
            rintro r w2 ⟨rfl, b2⟩
            have h2 := hide (HR.out.below b2)
            have HG2 := hide (grown_trans HG.out (grown_of b2))
            clear HR HG b2 cW CL
            go_wp2_with fail
            go_roundw
            case rel => exact ⟨m + 1 + 1, by go_num, by omega, by omega, h2, HS2, HG2⟩
            case measure => first | (simp [intOf]; done) | (simp [intOf]; omega)
        · have HS2 := hide (HS.out.trans (sorted_stop (.inl hle)))
          go_wp2_with fail
          go_meet
          exact ⟨i, rfl, hai, hie, HR, HS2, HG⟩
    case rest =>
      clear HR HG
      obtain ⟨I, rfl, hI1, hI2, HR, HS, HG⟩ := hcut
      by_cases hIe : I = e
      · have HF := hide (show (Sort.partialInsertionSort ltD d a e).2 = true by rw [HPI.out]; exact decide_eq_true (by rw [HS.out, hIe]))
        have t1 : ((I : Int) == (e : Int)) = true := by simp [hIe]
        have t2 : decide ((I : Int) = (e : Int)) = true := decide_eq_true (by omega)
        have t3 : decide (I = e) = true := decide_eq_true hIe
        have HIE := hide hIe
        clear hIe
        go_wp2_with fail
        rw [HF.out]
        go_ret
        exact ⟨rfl, HR.out, HG.out⟩
      · have HF := hide (show (Sort.partialInsertionSort ltD d a e).2 = false by rw [HPI.out]; exact decide_eq_false (by rw [HS.out]; exact hIe))
        have t1 : ¬ (I : Int) = (e : Int) := by omega
        go_wp2_with fail
        rw [HF.out]
        go_ret
        exact ⟨rfl, HR.out, HG.out⟩
set_option maxRecDepth 100000 in
set_option maxHeartbeats 3200000 in
theorem order2_any (h : RA W b g N c base d) {s k x y : Nat} (hs : Blk W s 3 #[.int .i64 k]) (hk : k ≤ 100) (hx : x < N) (hy : y < N) (hN : N ≤ 1000) (hsb : s ≠ b) (hsg : s ≠ g) :
    Calls Tryz.prog 95 #[.iface 76 (.pointer (some ⟨b, 0, none⟩)), .int .i64 x, .int .i64 y, .pointer (some ⟨s, 0, none⟩)] W fun r w' => ∃ x' y' k' : Nat, r = .returned (.tuple #[.int .i64 x', .int .i64 y']) ∧ ((x' = x ∧ y' = y) ∨ (x' = y ∧ y' = x)) ∧ k' ≤ k + 1 ∧ Blk w' s 3 #[.int .i64 k'] ∧ RA w' b g N c base d ∧ W.grownBy w' (some s) := by
  have eL := entersF Tryz.func117 (by kernel_rfl) rfl
  have mL := fun (W' : World) (h' : W'.cell? ⟨b, 0, none⟩ = some (.iface 55 (.slice (some ⟨g, 0, none⟩) N c))) => n_less h'
  have cW := h.rs.cell
  have CL := hide (ra_less h (i := y) (j := x) hy hx hN)
  have H := hide h
  cases hl : ltD d[y]! d[x]! with
  | true =>
    rw [hl] at CL
    clear hl h
    go_enter Tryz.func95, Tryz.ntmps95
    go_wp2_with fail
    refine CL.out.mono ?_
    rintro r w1 ⟨rfl, b1⟩
    have hs1 := hs.below b1 hs.lt
    have s0 := hs1.at_ (i := 0) (u := .int .i64 k) rfl
    have sf := hs1.free 0
    have h1 := hide (H.out.below b1)
    clear H cW CL hs
    go_wp2_with fail
    go_ret2
    refine ⟨y, x, k + 1, rfl, .inr ⟨rfl, rfl⟩, Nat.le_refl _, by simpa using hs1.set 0 (.int .i64 ((k : Int) + 1)), ⟨⟨h1.out.rs.box.far (Ne.symm hsb) _, h1.out.rs.own.far (fun g' e => by injection e with e; injection e with e; exact fun e2 => hsg (e2.symm.trans e.symm)) _⟩, h1.out.size⟩, ?_⟩
    exact (grown_of (g := s) b1).trans ⟨rfl, rfl, rfl, by simp, fun j _ hj => Below.heap_setCell _ _ _ _ (fun e => hj (by rw [e]))⟩
  | false =>
    rw [hl] at CL
    clear hl h
    go_enter Tryz.func95, Tryz.ntmps95
    go_wp2_with fail
    refine CL.out.mono ?_
    rintro r w1 ⟨rfl, b1⟩
    have hs1 := hs.below b1 hs.lt
    have h1 := hide (H.out.below b1)
    clear H cW CL hs
    go_wp2_with fail
    go_ret2
    exact ⟨x, y, k, rfl, .inl ⟨rfl, rfl⟩, Nat.le_succ _, hs1, h1.out, grown_of b1⟩
end
end Go.Proofs.YtfopihlbdceepaaGreat
