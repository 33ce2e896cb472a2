/-
  est.look and culref.Values: the walks. Conditions: the slices read as lists of numbers.
-/
import Derived.Test.YtgejpinepkockaaDeal
import Derived.Test.YtgejpinepkockaaPlain
namespace Go.Proofs.Ytgejpinepkockaa
open Go.RowKit

theorem within_q (x a b : Int) (w : World) : Calls Try.prog 82 #[.int .i64 x, .int .i64 a, .int .i64 b] w fun e w' => e = .returned (.bool (inR x a b)) ∧ w' = w :=
  (within_any x a b w).mono fun _ _ ⟨he, hw⟩ => ⟨he, hw.symm⟩
def estOk (vs ls : List Int) (k : Nat) : Bool := inR (vs.getD k 0) (-1000000000000) 1000000000000 && inR (ls.getD k 0) 0 20
def estErr (n m : Nat) (vs ls : List Int) : Int := if 40 < n ∨ 40 < m then 2 else if n ≠ m then 7 else if okTo (estOk vs ls) n = true then 0 else 1
theorem estOk_is {vs ls : List Int} {k : Nat} {x y : Int} (hx : vs[k]? = some x) (hy : ls[k]? = some y) : estOk vs ls k = (inR x (-1000000000000) 1000000000000 && inR y 0 20) := by
  unfold estOk; rw [getD_of hx, getD_of hy]
theorem estErr_zero {n m : Nat} {vs ls : List Int} (h : estErr n m vs ls = 0) : n ≤ 40 ∧ m = n ∧ okTo (estOk vs ls) n = true := by
  unfold estErr at h
  split at h
  · simp at h
  · split at h
    · simp at h
    · split at h
      · rename_i h1 h2 h3
        exact ⟨by omega, by omega, h3⟩
      · simp at h
theorem estOk_true {vs ls : List Int} {k : Nat} {x y : Int} (hx : vs[k]? = some x) (hy : ls[k]? = some y) (h : estOk vs ls k = true) : -1000000000000 ≤ x ∧ x ≤ 1000000000000 ∧ 0 ≤ y ∧ y ≤ 20 := by
  rw [estOk_is hx hy, Bool.and_eq_true] at h
  have h1 := h.1; have h2 := h.2
  simp only [inR, decide_eq_true_eq] at h1 h2
  omega

section
variable {A1 A2 : Option Addr} {n1 c1 n2 c2 : Nat} {vs ls : List Int} {w : World}
set_option maxRecDepth 20000 in
set_option maxHeartbeats 1600000 in
theorem look_any (h1 : Si w A1 n1 c1 vs) (h2 : Si w A2 n2 c2 ls) :
    Calls Try.prog 84 #[.slice A1 n1 c1, .slice A2 n2 c2] w fun e w' => e = .returned (.int .i64 (estErr n1 n2 vs ls)) ∧ Below w.heap.size w w' := by
  have hm1 := h1.len_max
  have hm2 := h2.len_max
  by_cases g1 : 40 < n1
  · have E := hide (show estErr n1 n2 vs ls = 2 by unfold estErr; rw [if_pos (.inl g1)])
    go_enter Try.func84, Try.ntmps84
    go_wp2
    go_ret
    exact ⟨by rw [E.out]; rfl, Below.refl _ _⟩
  by_cases g2 : 40 < n2
  · have E := hide (show estErr n1 n2 vs ls = 2 by unfold estErr; rw [if_pos (.inr g2)])
    go_enter Try.func84, Try.ntmps84
    go_wp2
    go_ret
    exact ⟨by rw [E.out]; rfl, Below.refl _ _⟩
  by_cases g3 : n1 = n2
  · subst g3
    have E : estErr n1 n1 vs ls = if okTo (estOk vs ls) n1 = true then 0 else 1 := by unfold estErr; rw [if_neg (by omega), if_neg (by omega)]
    have HE := hide E
    clear E
    go_enter Try.func84, Try.ntmps84
    go_wp2
    go_loopw [22] (fun i wr => ∃ k : Nat, k ≤ n1 ∧ i = .int .i64 k ∧ okTo (estOk vs ls) k = true ∧ Below w.heap.size w wr) (fun i _ => n1 - (intOf i).toNat)
    case atStart => exact ⟨0, Nat.zero_le _, rfl, rfl, Below.refl _ _⟩
    case round =>
      obtain ⟨k, hk, rfl, hok, hwr⟩ := hrel
      have HOK := hide hok
      clear hok
      by_cases hlt : k < n1
      · obtain ⟨ad, x, rfl, hb, hx, hc⟩ := (h1.on hwr).icell hlt
        obtain ⟨ae, y, rfl, hbe, hy, hd⟩ := (h2.on hwr).icell hlt
        have HC := hide (estOk_is hx hy)
        clear hx hy
        have bad : ¬ (-1000000000000 ≤ x ∧ x ≤ 1000000000000 ∧ 0 ≤ y ∧ y ≤ 20) → Hid (estErr n1 n1 vs ls = 1) := by
          intro hn
          rw [HE.out, if_neg]
          · exact hide rfl
          · rw [okTo_bad (k := k) _ n1 hlt]
            · simp
            · rw [HC.out]
              by_cases e : -1000000000000 ≤ x ∧ x ≤ 1000000000000
              · rw [inR_no (x := y) (by omega)]; simp
              · rw [inR_no e]; rfl
        by_cases a1 : x < -1000000000000
        · have B := bad (by omega)
          have d1 : decide (x < -1000000000000) = true := by simpa using a1
          clear bad
          go_wp2
          (try (go_quiet (fail); go_wp2))
          go_ret
          exact ⟨by rw [B.out]; rfl, by repeat' (first | assumption | with_reducible exact Below.refl _ _ | with_reducible apply Below.drew | with_reducible apply below_drewN | with_reducible apply below_alloc | with_reducible refine below_set ?_ ?_ _ | (simp only [World.size_alloc, World.heap_drewN]; omega) | (simp; omega))⟩
        · have d1 : decide (x < -1000000000000) = false := by simpa using a1
          by_cases a2 : 1000000000000 < x
          · have B := bad (by omega)
            have d2 : decide (1000000000000 < x) = true := by simpa using a2
            clear bad
            go_wp2
            (try (go_quiet (fail); go_wp2))
            go_ret
            exact ⟨by rw [B.out]; rfl, by repeat' (first | assumption | with_reducible exact Below.refl _ _ | with_reducible apply Below.drew | with_reducible apply below_drewN | with_reducible apply below_alloc | with_reducible refine below_set ?_ ?_ _ | (simp only [World.size_alloc, World.heap_drewN]; omega) | (simp; omega))⟩
          · have d2 : decide (1000000000000 < x) = false := by simpa using a2
            by_cases a3 : y < 0
            · have B := bad (by omega)
              have d3 : decide (y < 0) = true := by simpa using a3
              clear bad
              go_wp2
              (try (go_quiet (fail); go_wp2))
              go_ret
              exact ⟨by rw [B.out]; rfl, by repeat' (first | assumption | with_reducible exact Below.refl _ _ | with_reducible apply Below.drew | with_reducible apply below_drewN | with_reducible apply below_alloc | with_reducible refine below_set ?_ ?_ _ | (simp only [World.size_alloc, World.heap_drewN]; omega) | (simp; omega))⟩
            · have d3 : decide (y < 0) = false := by simpa using a3
              by_cases a4 : 20 < y
              · have B := bad (by omega)
                have d4 : decide (20 < y) = true := by simpa using a4
                clear bad
                go_wp2
                (try (go_quiet (fail); go_wp2))
                go_ret
                exact ⟨by rw [B.out]; rfl, by repeat' (first | assumption | with_reducible exact Below.refl _ _ | with_reducible apply Below.drew | with_reducible apply below_drewN | with_reducible apply below_alloc | with_reducible refine below_set ?_ ?_ _ | (simp only [World.size_alloc, World.heap_drewN]; omega) | (simp; omega))⟩
              · have d4 : decide (20 < y) = false := by simpa using a4
                clear bad
                have HN := hide (okTo_next HOK.out (show estOk vs ls k = true by rw [HC.out, inR_yes (by omega), inR_yes (by omega)]; rfl))
                go_wp2
                (try (go_quiet (fail); go_wp2))
                go_roundw
                case rel => exact ⟨k + 1, by omega, by go_num, HN.out, by repeat' (first | assumption | with_reducible exact Below.refl _ _ | with_reducible apply Below.drew | with_reducible apply below_drewN | with_reducible apply below_alloc | with_reducible refine below_set ?_ ?_ _ | (simp only [World.size_alloc, World.heap_drewN]; omega) | (simp; omega))⟩
                case measure => simp [intOf]; omega
      · obtain rfl : k = n1 := by omega
        go_wp2
        go_ret
        exact ⟨by rw [HE.out, if_pos HOK.out]; rfl, by repeat' (first | assumption | with_reducible exact Below.refl _ _ | with_reducible apply Below.drew | with_reducible apply below_drewN | with_reducible apply below_alloc | with_reducible refine below_set ?_ ?_ _ | (simp only [World.size_alloc, World.heap_drewN]; omega) | (simp; omega))⟩
  · have E := hide (show estErr n1 n2 vs ls = 7 by unfold estErr; rw [if_neg (by omega), if_pos g3])
    have t4 : ((n1 : Int) != (n2 : Int)) = true := by simp; omega
    go_enter Try.func84, Try.ntmps84
    go_wp2
    go_ret
    exact ⟨by rw [E.out]; rfl, Below.refl _ _⟩

set_option maxRecDepth 20000 in
set_option maxHeartbeats 1600000 in
theorem values_any (h1 : Si w A1 n1 c1 vs) (h2 : Si w A2 n2 c2 ls) :
    Calls Try.prog 85 #[.slice A1 n1 c1, .slice A2 n2 c2] w fun e w' => e = .returned (.int .i64 (estErr n1 n2 vs ls)) ∧ Below w.heap.size w w' := by
  have hm1 := h1.len_max
  have hm2 := h2.len_max
  by_cases g1 : 40 < n1
  · have E := hide (show estErr n1 n2 vs ls = 2 by unfold estErr; rw [if_pos (.inl g1)])
    go_enter Try.func85, Try.ntmps85
    go_wp2
    go_ret
    exact ⟨by rw [E.out]; rfl, Below.refl _ _⟩
  by_cases g2 : 40 < n2
  · have E := hide (show estErr n1 n2 vs ls = 2 by unfold estErr; rw [if_pos (.inr g2)])
    go_enter Try.func85, Try.ntmps85
    go_wp2
    go_ret
    exact ⟨by rw [E.out]; rfl, Below.refl _ _⟩
  by_cases g3 : n1 = n2
  · subst g3
    have E : estErr n1 n1 vs ls = if okTo (estOk vs ls) n1 = true then 0 else 1 := by unfold estErr; rw [if_neg (by omega), if_neg (by omega)]
    have HE := hide E
    clear E
    go_enter Try.func85, Try.ntmps85
    go_wp2
    go_loopw [21] (fun i wr => ∃ k : Nat, k ≤ n1 ∧ i = .int .i64 k ∧ okTo (estOk vs ls) k = true ∧ Below w.heap.size w wr) (fun i _ => n1 - (intOf i).toNat)
    case atStart => exact ⟨0, Nat.zero_le _, rfl, rfl, Below.refl _ _⟩
    case round =>
      obtain ⟨k, hk, rfl, hok, hwr⟩ := hrel
      have HOK := hide hok
      clear hok
      by_cases hlt : k < n1
      · obtain ⟨ad, x, rfl, hb, hx, hc⟩ := (h1.on hwr).icell hlt
        obtain ⟨ae, y, rfl, hbe, hy, hd⟩ := (h2.on hwr).icell hlt
        have HC := hide (estOk_is hx hy)
        clear hx hy
        cases d1 : inR x (-1000000000000) 1000000000000
        · have B := hide (show estErr n1 n1 vs ls = 1 by rw [HE.out, if_neg]; rw [okTo_bad (k := k) _ n1 hlt]; simp; rw [HC.out, d1]; rfl)
          go_wp2_with (go_at_call 82; refine (within_any _ _ _ _).mono ?_; rintro e w' ⟨rfl, rfl⟩)
          go_ret
          exact ⟨by rw [B.out]; rfl, by repeat' (first | assumption | with_reducible exact Below.refl _ _ | with_reducible apply Below.drew | with_reducible apply below_drewN | with_reducible apply below_alloc | with_reducible refine below_set ?_ ?_ _ | (simp only [World.size_alloc, World.heap_drewN]; omega) | (simp; omega))⟩
        · cases d2 : inR y 0 20
          · have B := hide (show estErr n1 n1 vs ls = 1 by rw [HE.out, if_neg]; rw [okTo_bad (k := k) _ n1 hlt]; simp; rw [HC.out, d1, d2]; rfl)
            go_wp2_with (go_at_call 82; refine (within_any _ _ _ _).mono ?_; rintro e w' ⟨rfl, rfl⟩)
            go_ret
            exact ⟨by rw [B.out]; rfl, by repeat' (first | assumption | with_reducible exact Below.refl _ _ | with_reducible apply Below.drew | with_reducible apply below_drewN | with_reducible apply below_alloc | with_reducible refine below_set ?_ ?_ _ | (simp only [World.size_alloc, World.heap_drewN]; omega) | (simp; omega))⟩
          · have HN := hide (okTo_next HOK.out (show estOk vs ls k = true by rw [HC.out, d1, d2]; rfl))
            go_wp2_with (go_at_call 82; refine (within_any _ _ _ _).mono ?_; rintro e w' ⟨rfl, rfl⟩)
            go_roundw
            case rel => exact ⟨k + 1, by omega, by go_num, HN.out, by repeat' (first | assumption | with_reducible exact Below.refl _ _ | with_reducible apply Below.drew | with_reducible apply below_drewN | with_reducible apply below_alloc | with_reducible refine below_set ?_ ?_ _ | (simp only [World.size_alloc, World.heap_drewN]; omega) | (simp; omega))⟩
            case measure => simp [intOf]; omega
      · obtain rfl : k = n1 := by omega
        go_wp2
        go_ret
        exact ⟨by rw [HE.out, if_pos HOK.out]; rfl, by repeat' (first | assumption | with_reducible exact Below.refl _ _ | with_reducible apply Below.drew | with_reducible apply below_drewN | with_reducible apply below_alloc | with_reducible refine below_set ?_ ?_ _ | (simp only [World.size_alloc, World.heap_drewN]; omega) | (simp; omega))⟩
  · have E := hide (show estErr n1 n2 vs ls = 7 by unfold estErr; rw [if_neg (by omega), if_pos g3])
    have t4 : ((n1 : Int) != (n2 : Int)) = true := by simp; omega
    go_enter Try.func85, Try.ntmps85
    go_wp2
    go_ret
    exact ⟨by rw [E.out]; rfl, Below.refl _ _⟩
end
end Go.Proofs.Ytgejpinepkockaa
