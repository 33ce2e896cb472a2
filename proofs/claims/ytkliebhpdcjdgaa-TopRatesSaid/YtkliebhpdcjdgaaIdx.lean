/-
  slices.Index, slices.Contains at []int: the walks. Condition: the slice reads as a list of numbers.
-/
import Derived.Test.YtkliebhpdcjdgaaProg
import Derived.Test.YtkliebhpdcjdgaaWithin
import Derived.Test.YtkliebhpdcjdgaaApp
import Derived.Test.YtkliebhpdcjdgaaOpen2
import Derived.RegionTactic
import Derived.BigRegion
namespace Go.Proofs.Ytkliebhpdcjdgaa
open Go.RowKit

theorem in_next {xs : List Int} {k : Nat} {x v : Int} (h : ¬ x ∈ xs.take k) (hv : xs[k]? = some v) (hne : ¬ x = v) : ¬ x ∈ xs.take (k + 1) := by
  rw [List.take_add_one, hv]
  simp [h, hne]
def IdxQ (x : Int) (xs : List Int) (i : Int) : Prop := (x ∈ xs ∧ 0 ≤ i) ∨ (¬ x ∈ xs ∧ i = -1)
section
variable {A : Option Addr} {n c : Nat} {xs : List Int} {w : World}
set_option maxHeartbeats 800000 in
theorem index_ints (h : Si w A n c xs) (x : Int) :
    Calls Try.prog 92 #[.slice A n c, .int .i64 x] w fun e w' => ∃ i : Int, e = .returned (.int .i64 i) ∧ IdxQ x xs i ∧ w = w' := by
  have hm := h.len_max
  have HL := hide h.ilen
  go_enter Try.func92, Try.ntmps92
  go_wp2_with fail
  go_loop [8] (fun i => ∃ k : Nat, k ≤ n ∧ i = .int .i64 k ∧ ¬ x ∈ xs.take k) (fun i => n - (intOf i).toNat)
  case atStart => exact ⟨0, Nat.zero_le _, rfl, by simp⟩
  case round =>
    obtain ⟨k, hk, rfl, hno⟩ := hrel
    have HNO := hide hno
    clear hno
    by_cases hlt : k < n
    · obtain ⟨ad, v, rfl, hb, hx, hc⟩ := h.icell hlt
      have HX := hide hx
      clear hx
      by_cases e : x = v
      · have t1 : (x == v) = true := by simp [e]
        have HE := hide e
        clear e
        go_wp2_with fail
        go_ret
        exact ⟨(k : Int), rfl, .inl ⟨by rw [HE.out]; exact List.mem_of_getElem? HX.out, by omega⟩, rfl⟩
      · have t1 : (x == v) = false := by simp [e]
        have HE := hide e
        clear e
        go_wp2_with fail
        go_round
        case rel => exact ⟨k + 1, by omega, by go_num, in_next HNO.out HX.out HE.out⟩
        case measure => simp [intOf]; omega
    · obtain rfl : k = n := by omega
      go_wp2_with fail
      go_ret
      exact ⟨-1, rfl, .inr ⟨by have := HNO.out; rwa [List.take_of_length_le (by rw [HL.out]; exact Nat.le_refl _)] at this, rfl⟩, rfl⟩
set_option maxHeartbeats 800000 in
theorem contains_ints (h : Si w A n c xs) (x : Int) (b : Bool) (hb : b = decide (x ∈ xs)) :
    Calls Try.prog 52 #[.slice A n c, .int .i64 x] w fun e w' => e = .returned (.bool b) ∧ w = w' := by
  have HI := hide (index_ints h x)
  have HB := hide hb
  clear hb
  go_enter Try.func52, Try.ntmps52
  go_wp2_with fail
  refine HI.out.mono ?_
  rintro e w' ⟨i, rfl, hi, rfl⟩
  have HJ := hide hi
  clear hi
  by_cases hm : x ∈ xs
  · have t1 : 0 ≤ i := by
      rcases HJ.out with h1 | h1
      · exact h1.2
      · exact absurd hm h1.1
    have t2 : b = true := by rw [HB.out]; exact decide_eq_true hm
    clear hm
    go_wp2_with fail
    go_ret
    exact ⟨by rw [t2]; rfl, rfl⟩
  · have t1 : i = -1 := by
      rcases HJ.out with h1 | h1
      · exact absurd h1.1 hm
      · exact h1.2
    have t2 : b = false := by rw [HB.out]; exact decide_eq_false hm
    clear hm
    subst t1
    go_wp2_with fail
    go_ret
    exact ⟨by rw [t2]; rfl, rfl⟩
end
end Go.Proofs.Ytkliebhpdcjdgaa
