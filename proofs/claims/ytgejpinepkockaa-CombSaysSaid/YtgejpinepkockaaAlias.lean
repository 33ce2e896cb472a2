/-
  alias.Check and culref.Table: the walks. Conditions: the two slices read as lists of numbers.
-/
import Derived.Test.YtgejpinepkockaaPond
import Derived.Test.YtgejpinepkockaaPlain
namespace Go.Proofs.Ytgejpinepkockaa
open Go.RowKit

def cellOk (all : Int) (n : Nat) (own rest : List Int) (k : Nat) : Bool := inR (own.getD k 0) 0 all && inR (rest.getD k 0) 0 ((n : Int) - 1)
def aliasErr (all : Int) (nO nR : Nat) (own rest : List Int) : Int :=
  if 40 < nO ∨ 40 < nR then 2 else if nO ≠ nR ∨ nO = 0 then 7 else if ¬ (1 ≤ all ∧ all ≤ 40000000000000) then 1 else if okTo (cellOk all nO own rest) nO = true then 0 else 1
theorem cellOk_is {all : Int} {n k : Nat} {own rest : List Int} {x y : Int} (hx : own[k]? = some x) (hy : rest[k]? = some y) : cellOk all n own rest k = (inR x 0 all && inR y 0 ((n : Int) - 1)) := by
  unfold cellOk; rw [getD_of hx, getD_of hy]
theorem aliasErr_zero {all : Int} {nO nR : Nat} {own rest : List Int} (h : aliasErr all nO nR own rest = 0) : nO ≤ 40 ∧ nR = nO ∧ 0 < nO ∧ 1 ≤ all ∧ all ≤ 40000000000000 ∧ okTo (cellOk all nO own rest) nO = true := by
  unfold aliasErr at h
  split at h
  · simp at h
  · split at h
    · simp at h
    · split at h
      · simp at h
      · split at h
        · rename_i h1 h2 h3 h4
          exact ⟨by omega, by omega, by omega, by omega, by omega, h4⟩
        · simp at h
theorem cellOk_true {all : Int} {n k : Nat} {own rest : List Int} {x y : Int} (hx : own[k]? = some x) (hy : rest[k]? = some y) (h : cellOk all n own rest k = true) : 0 ≤ x ∧ x ≤ all ∧ 0 ≤ y ∧ y ≤ (n : Int) - 1 := by
  rw [cellOk_is hx hy, Bool.and_eq_true] at h
  have h1 := h.1; have h2 := h.2
  simp only [inR, decide_eq_true_eq] at h1 h2
  omega

set_option maxRecDepth 20000 in
set_option maxHeartbeats 1600000 in
theorem aliasCheck_any (all : Int) (A1 A2 : Option Addr) (n1 c1 n2 c2 : Nat) (own rest : List Int) (w : World) (h1 : Si w A1 n1 c1 own) (h2 : Si w A2 n2 c2 rest) :
    Calls Try.prog 27 #[.agg #[.int .i64 all, .slice A1 n1 c1, .slice A2 n2 c2]] w fun e w' => e = .returned (.int .i64 (aliasErr all n1 n2 own rest)) ∧ Below w.heap.size w w' := by
  have hm1 := h1.len_max
  have hm2 := h2.len_max
  by_cases g1 : 40 < n1
  · have E := hide (show aliasErr all n1 n2 own rest = 2 by unfold aliasErr; rw [if_pos (.inl g1)])
    go_enter Try.func27, Try.ntmps27
    go_wp2
    go_ret
    exact ⟨by rw [E.out]; rfl, by repeat' (first | assumption | with_reducible exact Below.refl _ _ | with_reducible apply Below.drew | with_reducible apply below_drewN | with_reducible apply below_alloc | with_reducible refine below_set ?_ ?_ _ | (simp only [World.size_alloc, World.heap_drewN]; omega) | (simp; omega))⟩
  by_cases g2 : 40 < n2
  · have E := hide (show aliasErr all n1 n2 own rest = 2 by unfold aliasErr; rw [if_pos (.inr g2)])
    go_enter Try.func27, Try.ntmps27
    go_wp2
    go_ret
    exact ⟨by rw [E.out]; rfl, by repeat' (first | assumption | with_reducible exact Below.refl _ _ | with_reducible apply Below.drew | with_reducible apply below_drewN | with_reducible apply below_alloc | with_reducible refine below_set ?_ ?_ _ | (simp only [World.size_alloc, World.heap_drewN]; omega) | (simp; omega))⟩
  by_cases g3 : n1 = n2
  · subst g3
    by_cases g4 : n1 = 0
    · have E := hide (show aliasErr all n1 n1 own rest = 7 by unfold aliasErr; rw [if_neg (by omega), if_pos (.inr g4)])
      subst g4
      go_enter Try.func27, Try.ntmps27
      go_wp2
      go_ret
      exact ⟨by rw [E.out]; rfl, by repeat' (first | assumption | with_reducible exact Below.refl _ _ | with_reducible apply Below.drew | with_reducible apply below_drewN | with_reducible apply below_alloc | with_reducible refine below_set ?_ ?_ _ | (simp only [World.size_alloc, World.heap_drewN]; omega) | (simp; omega))⟩
    · by_cases g5 : 1 ≤ all ∧ all ≤ 40000000000000
      · have E : aliasErr all n1 n1 own rest = if okTo (cellOk all n1 own rest) n1 = true then 0 else 1 := by unfold aliasErr; rw [if_neg (by omega), if_neg (by omega), if_neg (by omega)]
        have HE := hide E
        clear E
        obtain ⟨g6, g7⟩ := g5
        have t4 : ((n1 : Int) == 0) = false := by simp [g4]
        have h1' := h1.on (w' := w.alloc (.cells #[.int .i64 all, .slice A1 n1 c1, .slice A2 n1 c2] 40)) (by repeat' (first | assumption | with_reducible exact Below.refl _ _ | with_reducible apply Below.drew | with_reducible apply below_drewN | with_reducible apply below_alloc | with_reducible refine below_set ?_ ?_ _ | (simp only [World.size_alloc, World.heap_drewN]; omega) | (simp; omega)))
        have h2' := h2.on (w' := w.alloc (.cells #[.int .i64 all, .slice A1 n1 c1, .slice A2 n1 c2] 40)) (by repeat' (first | assumption | with_reducible exact Below.refl _ _ | with_reducible apply Below.drew | with_reducible apply below_drewN | with_reducible apply below_alloc | with_reducible refine below_set ?_ ?_ _ | (simp only [World.size_alloc, World.heap_drewN]; omega) | (simp; omega)))
        go_enter Try.func27, Try.ntmps27
        go_wp2
        go_loopw [38] (fun i wr => ∃ k : Nat, k ≤ n1 ∧ i = .int .i64 k ∧ okTo (cellOk all n1 own rest) k = true ∧ ∃ q, wr = (w.alloc (.cells #[.int .i64 all, .slice A1 n1 c1, .slice A2 n1 c2] 40)).drewN q) (fun i _ => n1 - (intOf i).toNat)
        case atStart => exact ⟨0, Nat.zero_le _, rfl, rfl, 0, rfl⟩
        case round =>
          obtain ⟨k, hk, rfl, hok, q, rfl⟩ := hrel
          have HOK := hide hok
          clear hok
          by_cases hlt : k < n1
          · obtain ⟨ad, x, rfl, hb, hx, hc⟩ := h1'.icell hlt
            obtain ⟨ae, y, rfl, hbe, hy, hd⟩ := h2'.icell hlt
            have HC := hide (cellOk_is (all := all) (n := n1) hx hy)
            clear hx hy
            have bad : ¬ (0 ≤ x ∧ x ≤ all ∧ 0 ≤ y ∧ y ≤ (n1 : Int) - 1) → Hid (aliasErr all n1 n1 own rest = 1) := by
              intro hn
              rw [HE.out, if_neg]
              · exact hide rfl
              · rw [okTo_bad (k := k) _ n1 hlt]
                · simp
                · rw [HC.out]
                  by_cases e : 0 ≤ x ∧ x ≤ all
                  · rw [inR_no (x := y) (by omega)]; simp
                  · rw [inR_no e]; rfl
            by_cases a1 : x < 0
            · have d1 : decide (x < 0) = true := by simpa using a1
              have B := bad (by omega)
              clear bad
              go_wp2
              go_quiet (fail)
              go_wp2
              go_ret
              exact ⟨by rw [B.out]; rfl, by repeat' (first | assumption | with_reducible exact Below.refl _ _ | with_reducible apply Below.drew | with_reducible apply below_drewN | with_reducible apply below_alloc | with_reducible refine below_set ?_ ?_ _ | (simp only [World.size_alloc, World.heap_drewN]; omega) | (simp; omega))⟩
            · have d1 : decide (x < 0) = false := by simpa using a1
              by_cases a2 : all < x
              · have d2 : decide (all < x) = true := by simpa using a2
                have B := bad (by omega)
                clear bad
                go_wp2
                go_quiet (fail)
                go_wp2
                go_ret
                exact ⟨by rw [B.out]; rfl, by repeat' (first | assumption | with_reducible exact Below.refl _ _ | with_reducible apply Below.drew | with_reducible apply below_drewN | with_reducible apply below_alloc | with_reducible refine below_set ?_ ?_ _ | (simp only [World.size_alloc, World.heap_drewN]; omega) | (simp; omega))⟩
              · have d2 : decide (all < x) = false := by simpa using a2
                by_cases a3 : y < 0
                · have d3 : decide (y < 0) = true := by simpa using a3
                  have B := bad (by omega)
                  clear bad
                  go_wp2
                  go_quiet (fail)
                  go_wp2
                  go_ret
                  exact ⟨by rw [B.out]; rfl, by repeat' (first | assumption | with_reducible exact Below.refl _ _ | with_reducible apply Below.drew | with_reducible apply below_drewN | with_reducible apply below_alloc | with_reducible refine below_set ?_ ?_ _ | (simp only [World.size_alloc, World.heap_drewN]; omega) | (simp; omega))⟩
                · have d3 : decide (y < 0) = false := by simpa using a3
                  by_cases a4 : (n1 : Int) ≤ y
                  · have d4 : decide ((n1 : Int) ≤ y) = true := by simpa using a4
                    have B := bad (by omega)
                    clear bad
                    go_wp2
                    go_quiet (fail)
                    go_wp2
                    go_ret
                    exact ⟨by rw [B.out]; rfl, by repeat' (first | assumption | with_reducible exact Below.refl _ _ | with_reducible apply Below.drew | with_reducible apply below_drewN | with_reducible apply below_alloc | with_reducible refine below_set ?_ ?_ _ | (simp only [World.size_alloc, World.heap_drewN]; omega) | (simp; omega))⟩
                  · have d4 : decide ((n1 : Int) ≤ y) = false := by simpa using a4
                    clear bad
                    have HN := hide (okTo_next HOK.out (show cellOk all n1 own rest k = true by rw [HC.out, inR_yes (by omega), inR_yes (by omega)]; rfl))
                    go_wp2
                    go_quiet (fail)
                    go_wp2
                    go_roundw
                    case rel => exact ⟨k + 1, by omega, by go_num, HN.out, _, rfl⟩
                    case measure => simp [intOf]; omega
          · obtain rfl : k = n1 := by omega
            go_wp2
            go_ret
            exact ⟨by rw [HE.out, if_pos HOK.out]; rfl, by repeat' (first | assumption | with_reducible exact Below.refl _ _ | with_reducible apply Below.drew | with_reducible apply below_drewN | with_reducible apply below_alloc | with_reducible refine below_set ?_ ?_ _ | (simp only [World.size_alloc, World.heap_drewN]; omega) | (simp; omega))⟩
      · have E := hide (show aliasErr all n1 n1 own rest = 1 by unfold aliasErr; rw [if_neg (by omega), if_neg (by omega), if_pos g5])
        have t4 : ((n1 : Int) == 0) = false := by simp [g4]
        by_cases g6 : all < 1
        · go_enter Try.func27, Try.ntmps27
          go_wp2
          go_ret
          exact ⟨by rw [E.out]; rfl, by repeat' (first | assumption | with_reducible exact Below.refl _ _ | with_reducible apply Below.drew | with_reducible apply below_drewN | with_reducible apply below_alloc | with_reducible refine below_set ?_ ?_ _ | (simp only [World.size_alloc, World.heap_drewN]; omega) | (simp; omega))⟩
        · have g7 : 40000000000000 < all := by omega
          go_enter Try.func27, Try.ntmps27
          go_wp2
          go_ret
          exact ⟨by rw [E.out]; rfl, by repeat' (first | assumption | with_reducible exact Below.refl _ _ | with_reducible apply Below.drew | with_reducible apply below_drewN | with_reducible apply below_alloc | with_reducible refine below_set ?_ ?_ _ | (simp only [World.size_alloc, World.heap_drewN]; omega) | (simp; omega))⟩
  · have E := hide (show aliasErr all n1 n2 own rest = 7 by unfold aliasErr; rw [if_neg (by omega), if_pos (.inl g3)])
    have t4 : ((n1 : Int) != (n2 : Int)) = true := by simp; omega
    go_enter Try.func27, Try.ntmps27
    go_wp2
    go_ret
    exact ⟨by rw [E.out]; rfl, by repeat' (first | assumption | with_reducible exact Below.refl _ _ | with_reducible apply Below.drew | with_reducible apply below_drewN | with_reducible apply below_alloc | with_reducible refine below_set ?_ ?_ _ | (simp only [World.size_alloc, World.heap_drewN]; omega) | (simp; omega))⟩
end Go.Proofs.Ytgejpinepkockaa
