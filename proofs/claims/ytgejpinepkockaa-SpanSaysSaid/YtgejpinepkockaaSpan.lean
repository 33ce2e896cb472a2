/-
  span.Check and culref.Spans: the walks. Condition: the slice reads as a list of pairs of numbers.
-/
import Derived.Test.YtgejpinepkockaaSpanP
import Derived.Test.YtgejpinepkockaaEst2
import Derived.Outline
namespace Go.Proofs.Ytgejpinepkockaa
open Go.RowKit

theorem spanOk_is {ps : List (Int × Int)} {k : Nat} {p : Int × Int} (h : ps[k]? = some p) : spanOk ps k = decide (-1 ≤ p.1 ∧ p.1 < (k : Int) ∧ 0 ≤ p.2 ∧ p.2 ≤ 20) := by
  unfold spanOk; rw [getD_of h]
theorem spanErr_bad {n k : Nat} {ps : List (Int × Int)} {p : Int × Int} (hn : ¬ 40 < n) (h : ps[k]? = some p) (hk : k < n) (hb : ¬ (-1 ≤ p.1 ∧ p.1 < (k : Int) ∧ 0 ≤ p.2 ∧ p.2 ≤ 20)) : spanErr n ps = 1 := by
  unfold spanErr; rw [if_neg hn, if_neg]; rw [okTo_bad (k := k) (by rw [spanOk_is h]; exact decide_eq_false hb) n hk]; simp
abbrev Sp (w : World) (A : Option Addr) (n c : Nat) (ps : List (Int × Int)) : Prop := Sl w w.heap.size 2 A n c (prs ps)

set_option maxRecDepth 20000 in
set_option maxHeartbeats 1600000 in
theorem spanCheck_any {A : Option Addr} {n c : Nat} {ps : List (Int × Int)} {w : World} (h : Sp w A n c ps) :
    Calls Try.prog 61 #[.slice A n c] w fun e w' => e = .returned (.int .i64 (spanErr n ps)) ∧ Below w.heap.size w w' := by
  have hm := h.len_max
  by_cases g1 : 40 < n
  · have E := hide (show spanErr n ps = 2 from if_pos g1)
    go_enter Try.func61, Try.ntmps61
    go_wp2_with fail
    go_ret
    exact ⟨by rw [E.out]; rfl, by repeat' (first | assumption | with_reducible exact Below.refl _ _ | with_reducible apply Below.drew | with_reducible apply below_drewN | with_reducible apply below_alloc | with_reducible refine below_set ?_ ?_ _ | (simp only [World.size_alloc, World.heap_drewN]; omega) | (simp; omega))⟩
  have HE := hide (show spanErr n ps = if okTo (spanOk ps) n = true then 0 else 1 from if_neg g1)
  go_enter Try.func61, Try.ntmps61
  go_wp2_with fail
  go_loopw [10] (fun i wr => ∃ k : Nat, k ≤ n ∧ i = .int .i64 k ∧ okTo (spanOk ps) k = true ∧ Below w.heap.size w wr) (fun i _ => n - (intOf i).toNat)
  case atStart => exact ⟨0, Nat.zero_le _, rfl, rfl, Below.refl _ _⟩
  case round =>
    obtain ⟨k, hk, rfl, hok, hb⟩ := hrel
    have HOK := hide hok
    clear hok
    by_cases hlt : k < n
    · obtain ⟨ad, ⟨u, l⟩, rfl, hbk, hp, hc0, hc1⟩ := (h.on hb).pcell hlt
      have HP := hide hp
      dsimp only at hc0 hc1
      clear hp
      by_cases a0 : -1 ≤ u ∧ u < (k : Int) ∧ 0 ≤ l ∧ l ≤ 20
      · have HN := hide (okTo_next HOK.out (show spanOk ps k = true by rw [spanOk_is HP.out]; exact decide_eq_true a0))
        obtain ⟨a1, a2, a3, a4⟩ := a0
        go_wp2_with fail
        go_roundw
        case rel => exact ⟨k + 1, by omega, by go_num, HN.out, by repeat' (first | assumption | with_reducible exact Below.refl _ _ | with_reducible apply Below.drew | with_reducible apply below_drewN | with_reducible apply below_alloc | with_reducible refine below_set ?_ ?_ _ | (simp only [World.size_alloc, World.heap_drewN]; omega) | (simp; omega))⟩
        case measure => simp [intOf]; omega
      · have B := hide (spanErr_bad g1 HP.out hlt a0)
        have key : u < -1 ∨ (¬ u < -1 ∧ (k : Int) ≤ u) ∨ (¬ u < -1 ∧ u < (k : Int) ∧ l < 0) ∨ (¬ u < -1 ∧ u < (k : Int) ∧ ¬ l < 0 ∧ 20 < l) := by omega
        clear a0
        rcases key with k1 | ⟨k1, k2⟩ | ⟨k1, k2, k3⟩ | ⟨k1, k2, k3, k4⟩
        all_goals
          go_wp2_with fail
          go_ret
          exact ⟨by rw [B.out]; rfl, by repeat' (first | assumption | with_reducible exact Below.refl _ _ | with_reducible apply Below.drew | with_reducible apply below_drewN | with_reducible apply below_alloc | with_reducible refine below_set ?_ ?_ _ | (simp only [World.size_alloc, World.heap_drewN]; omega) | (simp; omega))⟩
    · obtain rfl : k = n := by omega
      go_wp2_with fail
      go_ret
      exact ⟨by rw [HE.out, if_pos HOK.out]; rfl, hb⟩

set_option maxRecDepth 20000 in
set_option maxHeartbeats 1600000 in
theorem spans_any {A : Option Addr} {n c : Nat} {ps : List (Int × Int)} {w : World} (h : Sp w A n c ps) :
    Calls Try.prog 60 #[.slice A n c] w fun e w' => e = .returned (.int .i64 (spanErr n ps)) ∧ Below w.heap.size w w' := by
  have hm := h.len_max
  by_cases g1 : 40 < n
  · have E := hide (show spanErr n ps = 2 from if_pos g1)
    go_enter Try.func60, Try.ntmps60
    go_wp2_with fail
    go_ret
    exact ⟨by rw [E.out]; rfl, by repeat' (first | assumption | with_reducible exact Below.refl _ _ | with_reducible apply Below.drew | with_reducible apply below_drewN | with_reducible apply below_alloc | with_reducible refine below_set ?_ ?_ _ | (simp only [World.size_alloc, World.heap_drewN]; omega) | (simp; omega))⟩
  have HE := hide (show spanErr n ps = if okTo (spanOk ps) n = true then 0 else 1 from if_neg g1)
  go_enter Try.func60, Try.ntmps60
  go_wp2_with fail
  go_loopw [10] (fun i wr => ∃ k : Nat, k ≤ n ∧ i = .int .i64 k ∧ okTo (spanOk ps) k = true ∧ Below w.heap.size w wr) (fun i _ => n - (intOf i).toNat)
  case atStart => exact ⟨0, Nat.zero_le _, rfl, rfl, Below.refl _ _⟩
  case round =>
    obtain ⟨k, hk, rfl, hok, hb⟩ := hrel
    have HOK := hide hok
    clear hok
    by_cases hlt : k < n
    · obtain ⟨ad, ⟨u, l⟩, rfl, hbk, hp, hc0, hc1⟩ := (h.on hb).pcell hlt
      have HP := hide hp
      dsimp only at hc0 hc1
      clear hp
      by_cases b0 : -1 ≤ u ∧ u ≤ (k : Int) - 1
      · have t1 := inR_yes b0
        by_cases b1 : 0 ≤ l ∧ l ≤ 20
        · have t2 := inR_yes b1
          have HN := hide (okTo_next HOK.out (show spanOk ps k = true by rw [spanOk_is HP.out]; exact decide_eq_true ⟨by omega, by dsimp only; omega, by dsimp only; omega, by dsimp only; omega⟩))
          clear b0 b1
          go_wp2_with (go_at_call 82; refine (within_any _ _ _ _).mono ?_; rintro e w' ⟨rfl, rfl⟩)
          go_roundw
          case rel => exact ⟨k + 1, by omega, by go_num, HN.out, by repeat' (first | assumption | with_reducible exact Below.refl _ _ | with_reducible apply Below.drew | with_reducible apply below_drewN | with_reducible apply below_alloc | with_reducible refine below_set ?_ ?_ _ | (simp only [World.size_alloc, World.heap_drewN]; omega) | (simp; omega))⟩
          case measure => simp [intOf]; omega
        · have t2 := inR_no b1
          have B := hide (spanErr_bad g1 HP.out hlt (by dsimp only; omega))
          clear b0 b1
          go_wp2_with (go_at_call 82; refine (within_any _ _ _ _).mono ?_; rintro e w' ⟨rfl, rfl⟩)
          go_ret
          exact ⟨by rw [B.out]; rfl, by repeat' (first | assumption | with_reducible exact Below.refl _ _ | with_reducible apply Below.drew | with_reducible apply below_drewN | with_reducible apply below_alloc | with_reducible refine below_set ?_ ?_ _ | (simp only [World.size_alloc, World.heap_drewN]; omega) | (simp; omega))⟩
      · have t1 := inR_no b0
        have B := hide (spanErr_bad g1 HP.out hlt (by dsimp only; omega))
        clear b0
        go_wp2_with (go_at_call 82; refine (within_any _ _ _ _).mono ?_; rintro e w' ⟨rfl, rfl⟩)
        go_ret
        exact ⟨by rw [B.out]; rfl, by repeat' (first | assumption | with_reducible exact Below.refl _ _ | with_reducible apply Below.drew | with_reducible apply below_drewN | with_reducible apply below_alloc | with_reducible refine below_set ?_ ?_ _ | (simp only [World.size_alloc, World.heap_drewN]; omega) | (simp; omega))⟩
    · obtain rfl : k = n := by omega
      go_wp2_with fail
      go_ret
      exact ⟨by rw [HE.out, if_pos HOK.out]; rfl, hb⟩
end Go.Proofs.Ytgejpinepkockaa
