/-
  alias.Weights and culref.Weights: the walks. Condition: the slice reads as a list of numbers.
-/
import Derived.Test.YtjmkejindmgckaaWalker
import Derived.Test.YtjmkejindmgckaaCount
import Derived.Test.YtjmkejindmgckaaFunc
namespace Go.Proofs.Ytjmkejindmgckaa
open Go.RowKit

def wBad (x : Int) : Bool := !inR x 0 1000000000000
def wErr (n : Nat) (xs : List Int) : Int := if 40 < n then 2 else if noneTo wBad xs n = false then 1 else if wsum xs n = 0 then 6 else 0
def wVal (n : Nat) (xs : List Int) : Int := if wErr n xs = 0 then wsum xs n else 0
theorem wVal_bad {n : Nat} {xs : List Int} (h : ¬ wErr n xs = 0) : wVal n xs = 0 := if_neg h
theorem wBad_no {xs : List Int} {k n : Nat} {v : Int} (h : noneTo wBad xs n = true) (hk : k < n) (hv : xs[k]? = some v) : 0 ≤ v ∧ v ≤ 1000000000000 := by
  have h1 := okTo_at n h hk
  simp only [getD_of hv, wBad, Bool.not_not, inR, decide_eq_true_eq] at h1
  exact h1
theorem wErr_zero {n : Nat} {xs : List Int} (hl : xs.length = n) (h : wErr n xs = 0) : n ≤ 40 ∧ noneTo wBad xs n = true ∧ (∀ x ∈ xs, 0 ≤ x ∧ x ≤ 1000000000000) ∧ 0 < n ∧ ¬ wsum xs n = 0 := by
  unfold wErr at h
  by_cases h1 : 40 < n
  · rw [if_pos h1] at h; omega
  · rw [if_neg h1] at h
    by_cases h2 : noneTo wBad xs n = false
    · rw [if_pos h2] at h; omega
    · rw [if_neg h2] at h
      have h2' : noneTo wBad xs n = true := by simpa using h2
      by_cases h3 : wsum xs n = 0
      · rw [if_pos h3] at h; omega
      · refine ⟨by omega, h2', ?_, ?_, h3⟩
        · intro x hx
          obtain ⟨j, hj⟩ := List.getElem?_of_mem hx
          exact wBad_no h2' (by rw [← hl]; exact (List.getElem?_eq_some_iff.1 hj).1) hj
        · rcases Nat.eq_zero_or_pos n with e | e
          · subst e; exact absurd rfl h3
          · exact e
theorem wsum_pre {n : Nat} {xs : List Int} (h : noneTo wBad xs n = true) (hl : xs.length = n) : ∀ k, k ≤ n → 0 ≤ wsum xs k ∧ wsum xs k ≤ 1000000000000 * (k : Int)
  | 0, _ => by simp [wsum]
  | k + 1, hk => by
    have ih := wsum_pre h hl k (by omega)
    have := wBad_no h (show k < n by omega) (getD_at (l := xs) (k := k) (by omega))
    rw [wsum]; omega
theorem wsum_next {xs : List Int} {k : Nat} {x : Int} (h : xs[k]? = some x) : wsum xs (k + 1) = wsum xs k + x := by rw [wsum, getD_of h]
theorem wsum_okTo {n : Nat} {xs : List Int} (hl : n ≤ xs.length) (h : noneTo wBad xs n = true) : ∀ k, k ≤ n → 0 ≤ wsum xs k ∧ wsum xs k ≤ 1000000000000 * (k : Int)
  | 0, _ => by simp [wsum]
  | k + 1, hk => by
    have ih := wsum_okTo hl h k (by omega)
    have := wBad_no h (show k < n by omega) (getD_at (l := xs) (k := k) (by omega))
    rw [wsum]; omega

theorem wBad_answers : Answers 65 wBad where
  enters := enters_of Try.func65 (by kernel_rfl) rfl
  does := by
    intro x W
    go_enter Try.func65, Try.ntmps65
    go_wp2_with fail
    refine (count_any _ _).mono ?_
    rintro e w' ⟨rfl, rfl⟩
    go_wp2_with fail
    go_ret
    exact ⟨rfl, rfl⟩

section
variable {A : Option Addr} {n c : Nat} {xs : List Int} {w : World}
set_option maxRecDepth 20000 in
set_option maxHeartbeats 1600000 in
theorem weights_any (h : Si w A n c xs) :
    Calls Try.prog 63 #[.slice A n c] w fun e w' => e = .returned (.tuple #[.int .i64 (wVal n xs), .int .i64 (wErr n xs)]) ∧ Below w.heap.size w w' := by
  have hm := h.len_max
  by_cases g1 : 40 < n
  · have e1 : wErr n xs = 2 := if_pos g1
    have E := hide e1
    have V := hide (wVal_bad (show ¬ wErr n xs = 0 by rw [e1]; decide))
    clear e1
    go_enter Try.func63, Try.ntmps63
    go_wp2_with fail
    go_ret2
    exact ⟨by rw [E.out, V.out]; rfl, by repeat' (first | assumption | with_reducible exact Below.refl _ _ | with_reducible apply Below.drew | with_reducible apply below_drewN | with_reducible apply below_alloc | with_reducible refine below_set ?_ ?_ _ | (simp only [World.size_alloc, World.heap_drewN]; omega) | (simp; omega))⟩
  have HE := hide (show wErr n xs = if noneTo wBad xs n = false then 1 else if wsum xs n = 0 then 6 else 0 from if_neg g1)
  have HL := hide h.ilen
  go_enter Try.func63, Try.ntmps63
  go_wp2_with fail
  go_loopw [4, 12] (fun v i wr => ∃ k : Nat, k ≤ n ∧ i = .int .i64 k ∧ v = .int .i64 (wsum xs k) ∧ noneTo wBad xs k = true ∧ ∃ q, wr = w.drewN q) (fun _ i _ => n - (intOf i).toNat)
  case atStart => exact ⟨0, Nat.zero_le _, rfl, rfl, rfl, 0, rfl⟩
  case round =>
    obtain ⟨k, hk, rfl, rfl, hno, q, rfl⟩ := hrel
    have hs := wsum_okTo (by rw [HL.out]; exact hk) hno k (Nat.le_refl _)
    have HNO := hide hno
    clear hno
    by_cases hlt : k < n
    · obtain ⟨ad, x, rfl, hb, hx, hc⟩ := h.icell hlt
      have HX := hide hx
      clear hx
      by_cases a0 : 0 ≤ x ∧ x ≤ 1000000000000
      · have HN := hide (noneTo_next HNO.out HX.out (by rw [wBad, inR_yes a0]; rfl))
        have HS := hide (wsum_next HX.out)
        obtain ⟨a1, a2⟩ := a0
        have a3 : ¬ x < 0 := by omega
        go_wp2
        go_roundw
        case rel => exact ⟨k + 1, by omega, by go_num, by rw [HS.out], HN.out, _, rfl⟩
        case measure => simp [intOf]; omega
      · have e1 : wErr n xs = 1 := by rw [HE.out, if_pos (noneTo_bad HX.out (by rw [wBad, inR_no a0]; rfl) hlt)]
        have E := hide e1
        have V := hide (wVal_bad (show ¬ wErr n xs = 0 by rw [e1]; decide))
        clear e1
        by_cases a1 : x < 0
        · clear a0
          go_wp2
          go_ret2
          exact ⟨by rw [E.out, V.out]; rfl, by repeat' (first | assumption | with_reducible exact Below.refl _ _ | with_reducible apply Below.drew | with_reducible apply below_drewN | with_reducible apply below_alloc | with_reducible refine below_set ?_ ?_ _ | (simp only [World.size_alloc, World.heap_drewN]; omega) | (simp; omega))⟩
        · have a2 : 1000000000000 < x := by omega
          clear a0
          go_wp2
          go_ret2
          exact ⟨by rw [E.out, V.out]; rfl, by repeat' (first | assumption | with_reducible exact Below.refl _ _ | with_reducible apply Below.drew | with_reducible apply below_drewN | with_reducible apply below_alloc | with_reducible refine below_set ?_ ?_ _ | (simp only [World.size_alloc, World.heap_drewN]; omega) | (simp; omega))⟩
    · obtain rfl : k = n := by omega
      have HE2 := hide (show wErr k xs = if wsum xs k = 0 then 6 else 0 by rw [HE.out, if_neg (by rw [HNO.out]; simp)])
      obtain ⟨s, hse⟩ : ∃ s, wsum xs k = s := ⟨_, rfl⟩
      have HSE := hide hse
      rw [hse]
      by_cases h0 : s = 0
      · have e1 : wErr k xs = 6 := by rw [HE2.out, HSE.out, if_pos h0]
        have E := hide e1
        have V := hide (wVal_bad (show ¬ wErr k xs = 0 by rw [e1]; decide))
        have t0 : (s == 0) = true := by simp [h0]
        clear e1 hse hs h0
        go_wp2
        go_ret2
        exact ⟨by rw [E.out, V.out]; rfl, by repeat' (first | assumption | with_reducible exact Below.refl _ _ | with_reducible apply Below.drew | with_reducible apply below_drewN | with_reducible apply below_alloc | with_reducible refine below_set ?_ ?_ _ | (simp only [World.size_alloc, World.heap_drewN]; omega) | (simp; omega))⟩
      · have e1 : wErr k xs = 0 := by rw [HE2.out, HSE.out, if_neg h0]
        have E := hide e1
        have V := hide (show wVal k xs = s by rw [wVal, if_pos e1, HSE.out])
        have t0 : (s == 0) = false := by simp [h0]
        clear e1 hse hs h0
        go_wp2
        go_ret2
        exact ⟨by rw [E.out, V.out]; rfl, by repeat' (first | assumption | with_reducible exact Below.refl _ _ | with_reducible apply Below.drew | with_reducible apply below_drewN | with_reducible apply below_alloc | with_reducible refine below_set ?_ ?_ _ | (simp only [World.size_alloc, World.heap_drewN]; omega) | (simp; omega))⟩
set_option maxRecDepth 20000 in
set_option maxHeartbeats 1600000 in
theorem rweights_any (h : Si w A n c xs) :
    Calls Try.prog 13 #[.slice A n c] w fun e w' => e = .returned (.tuple #[.int .i64 (wVal n xs), .int .i64 (wErr n xs)]) ∧ Below w.heap.size w w' := by
  have hm := h.len_max
  by_cases g1 : 40 < n
  · have e1 : wErr n xs = 2 := if_pos g1
    have E := hide e1
    have V := hide (wVal_bad (show ¬ wErr n xs = 0 by rw [e1]; decide))
    clear e1
    go_enter Try.func13, Try.ntmps13
    go_wp2_with fail
    go_ret2
    exact ⟨by rw [E.out, V.out]; rfl, by repeat' (first | assumption | with_reducible exact Below.refl _ _ | with_reducible apply Below.drew | with_reducible apply below_drewN | with_reducible apply below_alloc | with_reducible refine below_set ?_ ?_ _ | (simp only [World.size_alloc, World.heap_drewN]; omega) | (simp; omega))⟩
  have HE := hide (show wErr n xs = if noneTo wBad xs n = false then 1 else if wsum xs n = 0 then 6 else 0 from if_neg g1)
  have HL := hide h.ilen
  cases hno : noneTo wBad xs n
  · have e1 : wErr n xs = 1 := by rw [HE.out, if_pos hno]
    have E := hide e1
    have V := hide (wVal_bad (show ¬ wErr n xs = 0 by rw [e1]; decide))
    have HNO := hide hno
    clear e1 hno
    go_enter Try.func13, Try.ntmps13
    go_wp2_with fail
    refine (containsFunc_ints _ wBad wBad_answers A n c xs _ h (b := true) (by rw [HNO.out]; rfl)).mono ?_
    rintro e w1 ⟨rfl, hb1⟩
    go_wp2_with fail
    go_ret2
    exact ⟨by rw [E.out, V.out]; rfl, hb1⟩
  · have HNO := hide hno
    clear hno
    go_enter Try.func13, Try.ntmps13
    go_wp2_with fail
    refine (containsFunc_ints _ wBad wBad_answers A n c xs _ h (b := false) (by rw [HNO.out]; rfl)).mono ?_
    rintro e w1 ⟨rfl, hb1⟩
    go_wp2_with fail
    go_loopw [4, 14] (fun v i wr => ∃ k : Nat, k ≤ n ∧ i = .int .i64 k ∧ v = .int .i64 (wsum xs k) ∧ Below w.heap.size w wr) (fun _ i _ => n - (intOf i).toNat)
    case atStart => exact ⟨0, Nat.zero_le _, rfl, rfl, hb1⟩
    case round =>
      obtain ⟨k, hk, rfl, rfl, hb⟩ := hrel
      have hs := wsum_pre HNO.out HL.out k hk
      by_cases hlt : k < n
      · obtain ⟨ad, x, rfl, hbk, hx, hc⟩ := (h.on hb).icell hlt
        have HX := hide hx
        have hxb := wBad_no HNO.out hlt hx
        clear hx
        have HS := hide (wsum_next HX.out)
        obtain ⟨a1, a2⟩ := hxb
        go_wp2
        go_roundw
        case rel => exact ⟨k + 1, by omega, by go_num, by rw [HS.out], by repeat' (first | assumption | with_reducible exact Below.refl _ _ | with_reducible apply Below.drew | with_reducible apply below_drewN | with_reducible apply below_alloc | with_reducible refine below_set ?_ ?_ _ | (simp only [World.size_alloc, World.heap_drewN]; omega) | (simp; omega))⟩
        case measure => simp [intOf]; omega
      · obtain rfl : k = n := by omega
        have HE2 := hide (show wErr k xs = if wsum xs k = 0 then 6 else 0 by rw [HE.out, if_neg (by rw [HNO.out]; simp)])
        obtain ⟨s, hse⟩ : ∃ s, wsum xs k = s := ⟨_, rfl⟩
        have HSE := hide hse
        rw [hse]
        by_cases h0 : s = 0
        · have e1 : wErr k xs = 6 := by rw [HE2.out, HSE.out, if_pos h0]
          have E := hide e1
          have V := hide (wVal_bad (show ¬ wErr k xs = 0 by rw [e1]; decide))
          have t0 : (s == 0) = true := by simp [h0]
          clear e1 hse hs h0
          go_wp2
          go_ret2
          exact ⟨by rw [E.out, V.out]; rfl, hb⟩
        · have e1 : wErr k xs = 0 := by rw [HE2.out, HSE.out, if_neg h0]
          have E := hide e1
          have V := hide (show wVal k xs = s by rw [wVal, if_pos e1, HSE.out])
          have t0 : (s == 0) = false := by simp [h0]
          clear e1 hse hs h0
          go_wp2
          go_ret2
          exact ⟨by rw [E.out, V.out]; rfl, hb⟩
end
theorem weights_is {A : Option Addr} {n c : Nat} {xs : List Int} {w : World} (h : Si w A n c xs) {V E : Int} (hv : wVal n xs = V) (he : wErr n xs = E) :
    Calls Try.prog 63 #[.slice A n c] w fun e w' => e = .returned (.tuple #[.int .i64 V, .int .i64 E]) ∧ Below w.heap.size w w' := by
  have k := weights_any h; rw [hv, he] at k; exact k
theorem rweights_is {A : Option Addr} {n c : Nat} {xs : List Int} {w : World} (h : Si w A n c xs) {V E : Int} (hv : wVal n xs = V) (he : wErr n xs = E) :
    Calls Try.prog 13 #[.slice A n c] w fun e w' => e = .returned (.tuple #[.int .i64 V, .int .i64 E]) ∧ Below w.heap.size w w' := by
  have k := rweights_any h; rw [hv, he] at k; exact k
end Go.Proofs.Ytjmkejindmgckaa
