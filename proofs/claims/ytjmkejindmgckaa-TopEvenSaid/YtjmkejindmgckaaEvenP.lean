/-
  Even points over all beginnings, on plain lists: each place gets, in all, its weight times the number of points. No program in sight.
-/
import Derived.Test.YtjmkejindmgckaaCumP
namespace Go.Proofs.Ytjmkejindmgckaa

/-- The sum of f over the numbers below s. -/
def sumTo (f : Nat → Int) : Nat → Int
  | 0 => 0
  | s + 1 => sumTo f s + f s
theorem sumTo_add (f g : Nat → Int) : ∀ s, sumTo (fun i => f i + g i) s = sumTo f s + sumTo g s
  | 0 => rfl
  | s + 1 => by simp only [sumTo, sumTo_add f g s]; omega
theorem sumTo_sub (f g : Nat → Int) : ∀ s, sumTo (fun i => f i - g i) s = sumTo f s - sumTo g s
  | 0 => rfl
  | s + 1 => by simp only [sumTo, sumTo_sub f g s]; omega
theorem sumTo_zero : ∀ s, sumTo (fun _ => 0) s = 0
  | 0 => rfl
  | s + 1 => by simp only [sumTo, sumTo_zero s]; omega
/-- How many of the first m numbers, moved on by c, lie below y. -/
theorem sumTo_low (c y : Int) : ∀ m : Nat, sumTo (fun (s : Nat) => if (s : Int) + c < y then 1 else 0) m = if y - c ≤ 0 then 0 else if (m : Int) ≤ y - c then (m : Int) else y - c
  | 0 => by simp only [sumTo]; split <;> (try split) <;> omega
  | m + 1 => by
    rw [sumTo, sumTo_low c y m]
    by_cases h1 : y - c ≤ 0
    · rw [if_pos h1, if_pos h1, if_neg (by omega)]; rfl
    · rw [if_neg h1, if_neg h1]
      by_cases h2 : ((m + 1 : Nat) : Int) ≤ y - c
      · rw [if_pos h2, if_pos (by omega), if_pos (by omega)]; omega
      · rw [if_neg h2]
        by_cases h3 : (m : Int) ≤ y - c
        · rw [if_pos h3, if_neg (by omega)]; omega
        · rw [if_neg h3, if_neg (by omega)]; omega
theorem sumTo_cnt (m : Nat) (y : Int) : ∀ k : Nat, sumTo (fun (s : Nat) => cnt (s : Int) (m : Int) y k) m = if y ≤ 0 then 0 else if (k : Int) * m ≤ y then (k : Int) * m else y
  | 0 => by
    simp only [cnt, sumTo_zero]
    split
    · rfl
    · rw [if_pos (by simp; omega)]; simp
  | k + 1 => by
    have e : (fun s : Nat => cnt (s : Int) (m : Int) y (k + 1)) = fun (s : Nat) => cnt (s : Int) (m : Int) y k + (if (s : Int) + (k : Int) * m < y then 1 else 0) := by funext s; rw [cnt]
    rw [e, sumTo_add, sumTo_cnt m y k, sumTo_low]
    have e2 : ((k + 1 : Nat) : Int) * m = (k : Int) * m + m := by rw [Int.natCast_add, Int.add_mul]; simp
    rw [e2]
    have h0 : 0 ≤ (k : Int) * m := Int.mul_nonneg (by omega) (by omega)
    obtain ⟨P, hP⟩ : ∃ P, (k : Int) * m = P := ⟨_, rfl⟩
    rw [hP] at h0 ⊢
    by_cases h1 : y ≤ 0
    · rw [if_pos h1, if_pos h1, if_pos (by omega)]; rfl
    · rw [if_neg h1, if_neg h1]
      by_cases h2 : P ≤ y
      · rw [if_pos h2]
        by_cases h3 : y - P ≤ 0
        · rw [if_pos h3]
          by_cases h4 : P + (m : Int) ≤ y
          · rw [if_pos h4]; omega
          · rw [if_neg h4]; omega
        · rw [if_neg h3]
          by_cases h4 : P + (m : Int) ≤ y
          · rw [if_pos h4, if_pos (by omega)]
          · rw [if_neg h4, if_neg (by omega)]; omega
      · rw [if_neg h2, if_pos (by omega), if_neg (by omega)]; omega
theorem sumTo_whole {m : Nat} {y : Int} {k : Nat} (h0 : 0 ≤ y) (h1 : y ≤ (k : Int) * m) : sumTo (fun (s : Nat) => cnt (s : Int) (m : Int) y k) m = y := by
  rw [sumTo_cnt]
  by_cases h : y ≤ 0
  · rw [if_pos h]; omega
  · rw [if_neg h]
    by_cases h2 : (k : Int) * m ≤ y
    · rw [if_pos h2]; omega
    · rw [if_neg h2]

/-- What place i has got, of k points that begin at s. -/
def got (l : List Int) (all : Int) (k i : Nat) (s : Nat) : Int := cnt (s : Int) all (wsum l (i + 1) * k) k - cnt (s : Int) all (wsum l i * k) k
theorem got_at {l : List Int} {all : Int} {n k i s : Nat} (h : i < n) : (evenTo l all (k : Int) (s : Int) n k)[i]? = some (got l all k i s) := evenTo_at h
theorem got_range (l : List Int) (all : Int) (k i s : Nat) : -(k : Int) ≤ got l all k i s ∧ got l all k i s ≤ k := by
  have h1 := cnt_nonneg s all (wsum l (i + 1) * k) k
  have h2 := cnt_nonneg s all (wsum l i * k) k
  unfold got; omega
/-- What the first i places have got. -/
theorem got_sum (l : List Int) (all : Int) (k s : Nat) : ∀ i, wsum (evenTo l all (k : Int) (s : Int) (i + 0) k) i = cnt (s : Int) all (wsum l i * k) k - cnt (s : Int) all 0 k := by
  have key : ∀ n i, i ≤ n → wsum (evenTo l all (k : Int) (s : Int) n k) i = cnt (s : Int) all (wsum l i * k) k - cnt (s : Int) all 0 k := by
    intro n i
    induction i with
    | zero => intro _; simp [wsum]
    | succ i ih => intro hi; rw [wsum_step (evenTo_at (by omega)), ih (by omega)]; omega
  intro i
  exact key (i + 0) i (by omega)
theorem got_sum' (l : List Int) (all : Int) (k s n : Nat) : ∀ i, i ≤ n → wsum (evenTo l all (k : Int) (s : Int) n k) i = cnt (s : Int) all (wsum l i * k) k - cnt (s : Int) all 0 k := by
  intro i
  induction i with
  | zero => intro _; simp [wsum]
  | succ i ih => intro hi; rw [wsum_step (evenTo_at (by omega)), ih (by omega)]; omega
theorem cnt_none {start all : Int} (h : 0 ≤ start) (ha : 0 ≤ all) : ∀ j : Nat, cnt start all 0 j = 0
  | 0 => rfl
  | j + 1 => by
    have : 0 ≤ (j : Int) * all := Int.mul_nonneg (by omega) ha
    rw [cnt, cnt_none h ha j, if_neg (by omega)]; rfl
/-- All points fall somewhere. -/
theorem got_all {l : List Int} {n k s S : Nat} (hS : wsum l n = (S : Int)) (hs : s < S) : wsum (evenTo l (S : Int) (k : Int) (s : Int) n k) n = k := by
  rw [got_sum' l S k s n n (Nat.le_refl _), hS, cnt_none (by omega) (by omega)]
  rw [cnt_all (by omega) k]
  · omega
  · intro m hm
    have h1 : ((m : Int) + 1) * S ≤ (k : Int) * S := Int.mul_le_mul_of_nonneg_right (by omega) (by omega)
    rw [Int.add_mul, Int.one_mul] at h1
    rw [Int.mul_comm (S : Int) k]
    omega
theorem got_total {l : List Int} {n k S i : Nat} {x : Int} (hl : l.length = n) (hw : ∀ x ∈ l, 0 ≤ x ∧ x ≤ 1000000000000) (hS : wsum l n = (S : Int)) (hx : l[i]? = some x) : sumTo (got l (S : Int) k i) S = x * k := by
  have hi : i < n := by rw [← hl]; exact (List.getElem?_eq_some_iff.1 hx).1
  have a1 := wsum_mono hw (a := i + 1) (b := n) (by omega) (by omega)
  have a2 := wsum_mono hw (a := i) (b := n) (by omega) (by omega)
  have b1 := wsum_bound hw (b := i + 1) (by omega)
  have b2 := wsum_bound hw (b := i) (by omega)
  rw [hS] at a1 a2
  have e : got l (S : Int) k i = fun s : Nat => cnt (s : Int) (S : Int) (wsum l (i + 1) * k) k - cnt (s : Int) (S : Int) (wsum l i * k) k := rfl
  rw [e, sumTo_sub, sumTo_whole, sumTo_whole, wsum_step hx, Int.add_mul]
  · omega
  · exact Int.mul_nonneg b2.1 (by omega)
  · rw [Int.mul_comm (k : Int)]; exact Int.mul_le_mul_of_nonneg_right a2 (by omega)
  · exact Int.mul_nonneg b1.1 (by omega)
  · rw [Int.mul_comm (k : Int)]; exact Int.mul_le_mul_of_nonneg_right a1 (by omega)
theorem got_bound (l : List Int) (all : Int) (k i : Nat) : ∀ s : Nat, -((k : Int) * s) ≤ sumTo (got l all k i) s ∧ sumTo (got l all k i) s ≤ (k : Int) * s
  | 0 => by simp [sumTo]
  | s + 1 => by
    have h1 := got_bound l all k i s
    have h2 := got_range l all k i s
    have e2 : (k : Int) * ((s + 1 : Nat) : Int) = (k : Int) * s + k := by rw [Int.natCast_add, Int.mul_add]; simp
    rw [sumTo, e2]; omega
/-- The counts while the places of beginning s are laid to them, the first i being laid. -/
def oft (l : List Int) (all : Int) (n k s i : Nat) : List Int := (List.range n).map fun (m : Nat) => sumTo (got l all k m) (if m < i then s + 1 else s)
theorem oft_at {l : List Int} {all : Int} {n k s i m : Nat} (h : m < n) : (oft l all n k s i)[m]? = some (sumTo (got l all k m) (if m < i then s + 1 else s)) := by simp [oft, h]
theorem oft_here {l : List Int} {all : Int} {n k s i : Nat} (h : i < n) : (oft l all n k s i)[i]? = some (sumTo (got l all k i) s) := by rw [oft_at h, if_neg (by omega)]
theorem oft_len (l : List Int) (all : Int) (n k s i : Nat) : (oft l all n k s i).length = n := by simp [oft]
theorem oft_start (l : List Int) (all : Int) (n k : Nat) : oft l all n k 0 0 = List.replicate n 0 := by
  apply List.ext_getElem?
  intro m
  by_cases hm : m < n
  · rw [oft_at hm, if_neg (by omega)]; simp [sumTo, hm]
  · rw [List.getElem?_eq_none (by simp [oft]; omega), List.getElem?_eq_none (by simp; omega)]
theorem oft_round (l : List Int) (all : Int) (n k s : Nat) : oft l all n k s n = oft l all n k (s + 1) 0 := by
  apply List.ext_getElem?
  intro m
  by_cases hm : m < n
  · rw [oft_at hm, oft_at hm, if_pos hm, if_neg (by omega)]
  · rw [List.getElem?_eq_none (by simp [oft]; omega), List.getElem?_eq_none (by simp [oft]; omega)]
theorem oft_next {l : List Int} {all : Int} {n k s i : Nat} (h : i < n) : (oft l all n k s i).set i (sumTo (got l all k i) s + got l all k i s) = oft l all n k s (i + 1) := by
  apply List.ext_getElem?
  intro m
  by_cases hm : m < n
  · rw [List.getElem?_set, oft_at hm, oft_len, oft_at hm]
    by_cases e : i = m
    · subst e
      simp only [if_true, hm, Nat.lt_succ_self]
      rfl
    · rw [if_neg e]
      by_cases e2 : m < i
      · rw [if_pos e2, if_pos (by omega)]
      · rw [if_neg e2, if_neg (by omega)]
  · rw [List.getElem?_eq_none (by simp [oft]; omega), List.getElem?_eq_none (by simp [oft]; omega)]
end Go.Proofs.Ytjmkejindmgckaa
