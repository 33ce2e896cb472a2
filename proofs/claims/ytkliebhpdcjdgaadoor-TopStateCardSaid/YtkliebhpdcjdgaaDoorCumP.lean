/-
  Weighted draws on plain lists: sums, the place of a part, even points counted in two ways. No program in sight.
-/
import Derived.Test.YtkliebhpdcjdgaaDoorWalker
namespace Go.Proofs.YtkliebhpdcjdgaaDoor

theorem wsum_step {l : List Int} {k : Nat} {x : Int} (h : l[k]? = some x) : wsum l (k + 1) = wsum l k + x := by rw [wsum, getD_of h]
theorem wsum_mono {l : List Int} (hw : ∀ x ∈ l, 0 ≤ x ∧ x ≤ 1000000000000) {a : Nat} : ∀ {b : Nat}, a ≤ b → b ≤ l.length → wsum l a ≤ wsum l b
  | 0, h, _ => by rw [show a = 0 by omega]; exact Int.le_refl _
  | b + 1, h, hb => by
    by_cases e : a = b + 1
    · subst e; exact Int.le_refl _
    · have ih := wsum_mono hw (a := a) (b := b) (by omega) (by omega)
      have hx := getD_at (l := l) (k := b) (by omega)
      have := hw _ (List.mem_of_getElem? hx)
      rw [wsum]; omega
theorem wsum_bound {l : List Int} (hw : ∀ x ∈ l, 0 ≤ x ∧ x ≤ 1000000000000) : ∀ {b : Nat}, b ≤ l.length → 0 ≤ wsum l b ∧ wsum l b ≤ 1000000000000 * (b : Int)
  | 0, _ => by simp [wsum]
  | b + 1, hb => by
    have ih := wsum_bound hw (b := b) (by omega)
    have hx := getD_at (l := l) (k := b) (by omega)
    have := hw _ (List.mem_of_getElem? hx)
    rw [wsum]; omega
/-- The sums. -/
def sumsOf (n : Nat) (l : List Int) : List Int := (List.range n).map fun (i : Nat) => wsum l (i + 1)
theorem sumsOf_at {n : Nat} {l : List Int} {i : Nat} (h : i < n) : (sumsOf n l)[i]? = some (wsum l (i + 1)) := by simp [sumsOf, h]
/-- Where a part falls: the first place whose sum is greater. -/
def Falls (l : List Int) (part : Int) (i : Nat) : Prop := wsum l i ≤ part ∧ part < wsum l (i + 1)
theorem Falls.one {l : List Int} (hw : ∀ x ∈ l, 0 ≤ x ∧ x ≤ 1000000000000) {part : Int} {i j : Nat} (hi : Falls l part i) (hj : Falls l part j) (hil : i < l.length) (hjl : j < l.length) : i = j := by
  have h1 := hi.1; have h2 := hi.2; have h3 := hj.1; have h4 := hj.2
  by_cases e : i < j
  · have := wsum_mono hw (a := i + 1) (b := j) (by omega) (by omega); omega
  · by_cases e2 : j < i
    · have := wsum_mono hw (a := j + 1) (b := i) (by omega) (by omega); omega
    · omega
/-- How many of the first j points lie below y; the points are start, start + all, .. -/
def cnt (start all y : Int) : Nat → Int
  | 0 => 0
  | j + 1 => cnt start all y j + if start + j * all < y then 1 else 0
theorem cnt_nonneg (start all y : Int) : ∀ j, 0 ≤ cnt start all y j ∧ cnt start all y j ≤ j
  | 0 => by simp [cnt]
  | j + 1 => by
    have := cnt_nonneg start all y j
    rw [cnt]
    split <;> omega
theorem cnt_all {start all y : Int} (ha : 0 ≤ all) : ∀ j : Nat, (∀ m : Nat, m < j → start + m * all < y) → cnt start all y j = j
  | 0, _ => rfl
  | j + 1, h => by
    rw [cnt, cnt_all ha j (fun m hm => h m (by omega)), if_pos (h j (by omega))]; omega
/-- Counted up to the first point that does not lie below. -/
theorem cnt_first {start all y : Int} (ha : 0 ≤ all) {n : Nat} (h : ∀ m : Nat, m < n → start + m * all < y) (hn : ¬ start + n * all < y) : ∀ d, cnt start all y (n + d) = n
  | 0 => cnt_all ha n h
  | d + 1 => by
    rw [← Nat.add_assoc, cnt, cnt_first ha h hn d, if_neg]
    · omega
    · have : (n : Int) * all ≤ ((n + d : Nat) : Int) * all := Int.mul_le_mul_of_nonneg_right (by omega) ha
      omega
/-- What the places have got when j points have been laid. -/
def evenTo (l : List Int) (all k start : Int) (n j : Nat) : List Int := (List.range n).map fun (i : Nat) => cnt start all (wsum l (i + 1) * k) j - cnt start all (wsum l i * k) j
theorem evenTo_len (l : List Int) (all k start : Int) (n j : Nat) : (evenTo l all k start n j).length = n := by simp [evenTo]
theorem evenTo_zero (l : List Int) (all k start : Int) (n : Nat) : evenTo l all k start n 0 = List.replicate n 0 := by
  apply List.ext_getElem?
  intro i
  simp only [evenTo, List.getElem?_map, List.getElem?_replicate, cnt]
  by_cases h : i < n <;> simp [h]
theorem evenTo_at {l : List Int} {all k start : Int} {n j i : Nat} (h : i < n) : (evenTo l all k start n j)[i]? = some (cnt start all (wsum l (i + 1) * k) j - cnt start all (wsum l i * k) j) := by simp [evenTo, h]
theorem evenTo_next {l : List Int} {all k start : Int} {n j i : Nat} (hl : l.length = n) (hw : ∀ x ∈ l, 0 ≤ x ∧ x ≤ 1000000000000) (hk : 0 ≤ k) (hi : i < n) (h1 : wsum l i * k ≤ start + j * all) (h2 : start + j * all < wsum l (i + 1) * k) :
    evenTo l all k start n (j + 1) = (evenTo l all k start n j).set i (cnt start all (wsum l (i + 1) * k) j - cnt start all (wsum l i * k) j + 1) := by
  apply List.ext_getElem?
  intro m
  by_cases hm : m < n
  · rw [evenTo_at hm, List.getElem?_set, evenTo_at hm, evenTo_len]
    by_cases e : i = m
    · subst e
      simp only [if_true, hm]
      congr 1
      simp only [cnt]
      rw [if_pos h2, if_neg (by omega)]; omega
    · rw [if_neg e]
      congr 1
      simp only [cnt]
      by_cases hlt : i < m
      · have g1 : wsum l (i + 1) * k ≤ wsum l m * k := Int.mul_le_mul_of_nonneg_right (wsum_mono hw (by omega) (by omega)) hk
        have g2 : wsum l m * k ≤ wsum l (m + 1) * k := Int.mul_le_mul_of_nonneg_right (wsum_mono hw (by omega) (by omega)) hk
        rw [if_pos (by omega), if_pos (by omega)]; omega
      · have g1 : wsum l (m + 1) * k ≤ wsum l i * k := Int.mul_le_mul_of_nonneg_right (wsum_mono hw (by omega) (by omega)) hk
        have g2 : wsum l m * k ≤ wsum l (m + 1) * k := Int.mul_le_mul_of_nonneg_right (wsum_mono hw (by omega) (by omega)) hk
        rw [if_neg (by omega), if_neg (by omega)]; omega
  · rw [List.getElem?_eq_none (by simp [evenTo]; omega), List.getElem?_eq_none (by simp [evenTo]; omega)]
end Go.Proofs.YtkliebhpdcjdgaaDoor
