/-
  Binomial numbers, in plain Lean; Pascal's rows. No program in sight.
-/
import Derived.Test.YtgejpinepkockaaApp
namespace Go.Proofs.Ytgejpinepkockaa
open Go.RowKit

/-- How many ways there are to take k of n. -/
def bin : Nat → Nat → Nat
  | _, 0 => 1
  | 0, _ + 1 => 0
  | n + 1, k + 1 => bin n k + bin n (k + 1)
theorem bin_zero (n : Nat) : bin n 0 = 1 := by cases n <;> rfl
theorem bin_next (n k : Nat) : bin (n + 1) (k + 1) = bin n k + bin n (k + 1) := rfl
theorem bin_le : ∀ n k, bin n k ≤ 2 ^ n
  | n, 0 => by rw [bin_zero]; exact Nat.one_le_two_pow
  | 0, _ + 1 => by simp [bin]
  | n + 1, k + 1 => by have h1 := bin_le n k; have h2 := bin_le n (k + 1); rw [bin_next, Nat.pow_succ]; omega
theorem bin_none : ∀ n k, n < k → bin n k = 0
  | _, 0, h => by omega
  | 0, _ + 1, _ => rfl
  | n + 1, k + 1, h => by rw [bin_next, bin_none n k (by omega), bin_none n (k + 1) (by omega)]
theorem bin_all : ∀ n, bin n n = 1
  | 0 => rfl
  | n + 1 => by rw [bin_next, bin_all n, bin_none n (n + 1) (by omega)]
theorem bin_mono1 (n k : Nat) : bin n k ≤ bin (n + 1) k := by
  cases k with
  | zero => rw [bin_zero, bin_zero]; exact Nat.le_refl _
  | succ k => rw [bin_next]; omega
theorem bin_mono {n m k : Nat} (h : n ≤ m) : bin n k ≤ bin m k := by
  induction h with
  | refl => exact Nat.le_refl _
  | step _ ih => exact Nat.le_trans ih (bin_mono1 _ _)
theorem bin_bound {n : Nat} (h : n ≤ 30) (k : Nat) : bin n k ≤ 1073741824 := Nat.le_trans (bin_le n k) (Nat.le_trans (Nat.pow_le_pow_right (by omega) h) (by decide))
theorem bin_step : ∀ n k : Nat, (bin n k : Int) * ((n : Int) - k) = bin n (k + 1) * ((k : Int) + 1)
  | 0, 0 => by decide
  | 0, k + 1 => by simp [bin]
  | n + 1, 0 => by
    have h := bin_step n 0
    rw [bin_zero] at h ⊢
    rw [bin_next, bin_zero]
    simp at h ⊢
    omega
  | n + 1, k + 1 => by
    have h1 := bin_step n k
    have h2 := bin_step n (k + 1)
    rw [bin_next, bin_next]
    generalize bin n k = a at h1 h2 ⊢
    generalize bin n (k + 1) = b at h1 h2 ⊢
    generalize bin n (k + 1 + 1) = c at h1 h2 ⊢
    simp only [Int.natCast_add, Int.natCast_one] at h1 h2 ⊢
    grind
theorem bin_div {n k : Nat} : ((bin n k : Int) * ((n : Int) - k)).tdiv ((k : Int) + 1) = bin n (k + 1) := by
  rw [bin_step, Int.mul_tdiv_cancel _ (by omega)]

theorem bin_ediv {n k : Nat} : ((bin n k : Int) * ((n : Int) - k)) / ((k : Int) + 1) = bin n (k + 1) := by
  rw [bin_step, Int.mul_ediv_cancel _ (by omega)]

/-- A row by its numbers. -/
def rowOf (m : Nat) (f : Nat → Int) : List Int := (List.range m).map f
theorem rowOf_len (m : Nat) (f : Nat → Int) : (rowOf m f).length = m := by simp [rowOf]
theorem rowOf_at {m i : Nat} (f : Nat → Int) (h : i < m) : (rowOf m f)[i]? = some (f i) := by simp [rowOf, h]
theorem rowOf_set {m i : Nat} {f g : Nat → Int} {x : Int} (hx : g i = x) (h : ∀ j, j < m → j ≠ i → g j = f j) : (rowOf m f).set i x = rowOf m g := by
  apply List.ext_getElem?
  intro j
  by_cases hj : j < m
  · rw [rowOf_at g hj]
    by_cases e : i = j
    · subst e; rw [List.getElem?_set_self (by rw [rowOf_len]; exact hj), hx]
    · rw [List.getElem?_set_ne e, rowOf_at f hj, h j hj (fun h => e h.symm)]
  · rw [List.getElem?_eq_none (by simp [rowOf_len]; omega), List.getElem?_eq_none (by simp [rowOf_len]; omega)]
theorem rowOf_eq {m : Nat} {f g : Nat → Int} (h : ∀ j, j < m → f j = g j) : rowOf m f = rowOf m g := by
  unfold rowOf; exact List.map_congr_left fun j hj => h j (List.mem_range.1 hj)
/-- Pascal's row r, j being the next to be summed. -/
def pasc (n r j : Nat) : List Int := rowOf (n + 2) fun i => if n < i then 0 else if j < i then (bin (r + 1) i : Int) else (bin r i : Int)
theorem pasc_start (n : Nat) : (List.replicate (n + 2) (0 : Int)).set 0 1 = pasc n 0 n := by
  rw [show List.replicate (n + 2) (0 : Int) = rowOf (n + 2) (fun _ => 0) from by simp [rowOf]; exact (List.map_const' ..).symm.trans rfl |>.symm ▸ by simp]
  refine rowOf_set (by simp [bin]) fun j hj hne => ?_
  obtain ⟨i, rfl⟩ : ∃ i, j = i + 1 := ⟨j - 1, by omega⟩
  by_cases h : n < i + 1
  · rw [if_pos h]
  · rw [if_neg h, if_neg h]; rfl
theorem pasc_set {n r j : Nat} (h1 : 0 < j) (h2 : j ≤ n) : (pasc n r j).set j ((bin r j : Int) + bin r (j - 1)) = pasc n r (j - 1) := by
  refine rowOf_set ?_ fun i hi hne => ?_
  · obtain ⟨i, rfl⟩ : ∃ i, j = i + 1 := ⟨j - 1, by omega⟩
    rw [if_neg (by omega), if_pos (by omega), bin_next]
    simp; omega
  · by_cases h : n < i
    · rw [if_pos h, if_pos h]
    · rw [if_neg h, if_neg h]
      by_cases h3 : j < i
      · rw [if_pos h3, if_pos (by omega)]
      · rw [if_neg h3, if_neg (by omega)]
theorem pasc_next (n r : Nat) : pasc n r 0 = pasc n (r + 1) n := by
  refine rowOf_eq fun j _ => ?_
  by_cases h : n < j
  · rw [if_pos h, if_pos h]
  · rw [if_neg h, if_neg h, if_neg h]
    by_cases h0 : 0 < j
    · rw [if_pos h0]
    · obtain rfl : j = 0 := by omega
      rw [if_neg h0, bin_zero, bin_zero]
theorem pasc_at {n r j i : Nat} (h : i ≤ j) (hj : j ≤ n) : (pasc n r j)[i]? = some (bin r i : Int) := by
  rw [pasc, rowOf_at _ (by omega), if_neg (by omega), if_neg (by omega)]
end Go.Proofs.Ytgejpinepkockaa
