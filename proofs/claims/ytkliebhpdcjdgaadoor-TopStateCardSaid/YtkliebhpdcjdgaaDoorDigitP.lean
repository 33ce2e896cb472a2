/-
  Permutations on plain lists: what may be, its rank in two ways, the permutation of a rank in two ways. No program in sight.
-/
import Derived.Test.YtkliebhpdcjdgaaDoorPlain
namespace Go.Proofs.YtkliebhpdcjdgaaDoor

def fac : Nat → Nat
  | 0 => 1
  | n + 1 => (n + 1) * fac n
theorem fac_pos : ∀ n, 0 < fac n
  | 0 => by decide
  | n + 1 => Nat.mul_pos (by omega) (fac_pos n)
theorem fac_mono : ∀ {n m : Nat}, n ≤ m → fac n ≤ fac m
  | n, 0, h => by rw [show n = 0 by omega]; exact Nat.le_refl _
  | n, m + 1, h => by
    by_cases e : n = m + 1
    · subst e; exact Nat.le_refl _
    · have h1 := fac_mono (n := n) (m := m) (by omega)
      have h2 : 1 * fac m ≤ (m + 1) * fac m := Nat.mul_le_mul_right _ (by omega)
      rw [fac]; omega
theorem fac_12 {n : Nat} (h : n ≤ 12) : fac n ≤ 479001600 := Nat.le_trans (fac_mono h) (by decide)
/-- What is wrong with the k-th number. -/
def digStep (n : Nat) (xs : List Int) (k : Nat) : Int :=
  if xs.getD k 0 < 0 ∨ (n : Int) ≤ xs.getD k 0 then 1 else if xs.getD k 0 ∈ xs.take k then 5 else 0
def digTo (n : Nat) (xs : List Int) : Nat → Int
  | 0 => 0
  | k + 1 => if digTo n xs k = 0 then digStep n xs k else digTo n xs k
def digErr (n : Nat) (xs : List Int) : Int := if 12 < n then 2 else digTo n xs n
theorem digErr_big {n : Nat} {xs : List Int} (h : 12 < n) : digErr n xs = 2 := if_pos h
theorem digErr_small {n : Nat} {xs : List Int} (h : ¬ 12 < n) : digErr n xs = digTo n xs n := if_neg h
theorem digTo_bad {n : Nat} {xs : List Int} {k : Nat} {E : Int} (h : digTo n xs k = 0) (hs : digStep n xs k = E) (hE : E ≠ 0) : ∀ m, k < m → digTo n xs m = E
  | 0, hm => by omega
  | m + 1, hm => by
    by_cases e : k = m
    · subst e; rw [digTo, if_pos h, hs]
    · have ih := digTo_bad h hs hE m (by omega)
      rw [digTo, ih, if_neg hE]
theorem digTo_next {n : Nat} {xs : List Int} {k : Nat} (h : digTo n xs k = 0) (hs : digStep n xs k = 0) : digTo n xs (k + 1) = 0 := by rw [digTo, if_pos h, hs]
theorem digTo_all {n : Nat} {xs : List Int} : ∀ m, digTo n xs m = 0 → ∀ k, k < m → digStep n xs k = 0
  | 0, _, k, hk => by omega
  | m + 1, h, k, hk => by
    rw [digTo] at h
    by_cases e : digTo n xs m = 0
    · rw [if_pos e] at h
      by_cases ek : k = m
      · subst ek; exact h
      · exact digTo_all m e k (by omega)
    · rw [if_neg e] at h; exact absurd h e
theorem digStep_1 {n : Nat} {xs : List Int} {k : Nat} {x : Int} (hx : xs[k]? = some x) (h : x < 0 ∨ (n : Int) ≤ x) : digStep n xs k = 1 := by
  unfold digStep; rw [getD_of hx, if_pos h]
theorem digStep_5 {n : Nat} {xs : List Int} {k : Nat} {x : Int} (hx : xs[k]? = some x) (h : ¬ (x < 0 ∨ (n : Int) ≤ x)) (hm : x ∈ xs.take k) : digStep n xs k = 5 := by
  unfold digStep; rw [getD_of hx, if_neg h, if_pos hm]
theorem digStep_0 {n : Nat} {xs : List Int} {k : Nat} {x : Int} (hx : xs[k]? = some x) (h : ¬ (x < 0 ∨ (n : Int) ≤ x)) (hm : ¬ x ∈ xs.take k) : digStep n xs k = 0 := by
  unfold digStep; rw [getD_of hx, if_neg h, if_neg hm]
theorem digStep_zero {n : Nat} {xs : List Int} {k : Nat} {x : Int} (hx : xs[k]? = some x) (h : digStep n xs k = 0) : 0 ≤ x ∧ x < (n : Int) ∧ ¬ x ∈ xs.take k := by
  unfold digStep at h
  rw [getD_of hx] at h
  by_cases h1 : x < 0 ∨ (n : Int) ≤ x
  · rw [if_pos h1] at h; omega
  · rw [if_neg h1] at h
    by_cases h2 : x ∈ xs.take k
    · rw [if_pos h2] at h; omega
    · exact ⟨by omega, by omega, h2⟩
/-- Whoever has been seen. -/
def seenTo (n : Nat) (xs : List Int) (k : Nat) : List Bool := (List.range n).map fun (j : Nat) => decide ((j : Int) ∈ xs.take k)
theorem seenTo_len (n : Nat) (xs : List Int) (k : Nat) : (seenTo n xs k).length = n := by simp [seenTo]
theorem seenTo_zero (n : Nat) (xs : List Int) : seenTo n xs 0 = List.replicate n false := by
  apply List.ext_getElem?
  intro j
  simp only [seenTo, List.getElem?_map, List.take_zero, List.not_mem_nil, decide_false, List.getElem?_replicate]
  by_cases h : j < n
  · simp [h]
  · simp [h]
theorem seenTo_at {n : Nat} {xs : List Int} {k j : Nat} (h : j < n) : (seenTo n xs k)[j]? = some (decide ((j : Int) ∈ xs.take k)) := by simp [seenTo, h]
theorem seenTo_next {n : Nat} {xs : List Int} {k j : Nat} (hx : xs[k]? = some (j : Int)) : (seenTo n xs k).set j true = seenTo n xs (k + 1) := by
  apply List.ext_getElem?
  intro m
  by_cases hm : m < n
  · rw [seenTo_at hm, List.getElem?_set, seenTo_at hm, seenTo_len]
    have ht : xs.take (k + 1) = xs.take k ++ [(j : Int)] := by rw [List.take_add_one, hx]; rfl
    rw [ht]
    by_cases e : j = m
    · subst e; simp [hm]
    · rw [if_neg e]
      congr 1
      have : ¬ (m : Int) = (j : Int) := by omega
      simp [this]
  · rw [List.getElem?_eq_none (by simp [seenTo]; omega), List.getElem?_eq_none (by simp [seenTo]; omega)]
theorem dig_nodup {n : Nat} {xs : List Int} (hl : xs.length = n) (h : digTo n xs n = 0) : ∀ k, k ≤ n → (xs.take k).Nodup ∧ ∀ x ∈ xs.take k, 0 ≤ x ∧ x < (n : Int)
  | 0, _ => by simp
  | k + 1, hk => by
    obtain ⟨h1, h2⟩ := dig_nodup hl h k (by omega)
    have hx := getD_at (l := xs) (k := k) (by omega)
    have hz := digStep_zero hx (digTo_all n h k (by omega))
    rw [List.take_add_one, hx]
    refine ⟨?_, ?_⟩
    · rw [Option.toList_some, List.nodup_append]
      refine ⟨h1, by simp, ?_⟩
      intro a ha b hb
      simp only [List.mem_singleton] at hb
      subst hb
      exact fun e => hz.2.2 (e ▸ ha)
    · intro x hx'
      rcases List.mem_append.1 hx' with hx' | hx'
      · exact h2 x hx'
      · simp only [Option.toList_some, List.mem_singleton] at hx'
        subst hx'
        exact ⟨hz.1, hz.2.1⟩
/-- How many numbers of a list are less than x. -/
def lessIn (x : Int) (l : List Int) : Nat := (l.filter fun m => decide (m < x)).length
theorem lessIn_nil (x : Int) : lessIn x [] = 0 := rfl
theorem lessIn_snoc (x m : Int) (l : List Int) : lessIn x (l ++ [m]) = lessIn x l + if m < x then 1 else 0 := by
  unfold lessIn
  rw [List.filter_append, List.length_append]
  by_cases h : m < x <;> simp [List.filter_cons, h]
theorem lessIn_app (x : Int) (a b : List Int) : lessIn x (a ++ b) = lessIn x a + lessIn x b := by simp [lessIn]
theorem lessIn_le (x : Int) (l : List Int) : lessIn x l ≤ l.length := List.length_filter_le _ _
theorem below_count {l : List Int} (hd : l.Nodup) {a b : Int} (hab : a ≤ b) (h : ∀ x ∈ l, a ≤ x ∧ x < b) : (l.length : Int) ≤ b - a := by
  have h1 : l.length ≤ ((List.range (b - a).toNat).map fun (i : Nat) => (i : Int) + a).length := by
    apply List.Nodup.length_le_of_subset hd
    intro x hx
    have := h x hx
    rw [List.mem_map]
    exact ⟨(x - a).toNat, by rw [List.mem_range]; omega, by omega⟩
  simp only [List.length_map, List.length_range] at h1
  omega
/-- In a permutation just k numbers are less than k. -/
theorem less_all {n : Nat} {xs : List Int} (hl : xs.length = n) (hd : xs.Nodup) (hb : ∀ x ∈ xs, 0 ≤ x ∧ x < (n : Int)) {k : Int} (h0 : 0 ≤ k) (hk : k ≤ (n : Int)) : (lessIn k xs : Int) = k := by
  have h1 : ((xs.filter fun m => decide (m < k)).length : Int) ≤ k - 0 := by
    apply below_count (hd.sublist List.filter_sublist) h0
    intro x hx
    rw [List.mem_filter] at hx
    have := hb x hx.1
    have h2 := hx.2
    simp only [decide_eq_true_eq] at h2
    omega
  have h2 : ((xs.filter fun m => !decide (m < k)).length : Int) ≤ n - k := by
    apply below_count (hd.sublist List.filter_sublist) hk
    intro x hx
    rw [List.mem_filter] at hx
    have := hb x hx.1
    have h2 := hx.2
    simp only [Bool.not_eq_true', decide_eq_false_iff_not] at h2
    omega
  have h3 : ∀ l : List Int, (l.filter fun m => decide (m < k)).length + (l.filter fun m => !decide (m < k)).length = l.length := by
    intro l
    induction l with
    | nil => rfl
    | cons a l ih =>
      simp only [List.filter_cons]
      by_cases e : a < k
      · simp only [e, decide_true, if_true, Bool.not_true, Bool.false_eq_true, if_false, List.length_cons]; omega
      · simp only [e, decide_false, Bool.false_eq_true, if_false, Bool.not_false, if_true, List.length_cons]; omega
  have h4 := h3 xs
  unfold lessIn
  omega
/-- The rank, from what stands behind each place. -/
def rankTo (n : Nat) (xs : List Int) : Nat → Int
  | 0 => 0
  | i + 1 => rankTo n xs i * ((n : Int) - i) + (lessIn (xs.getD i 0) (xs.drop (i + 1)) : Int)
/-- The rank, from what stands ahead of each place. -/
def rrTo (n : Nat) (xs : List Int) : Nat → Int
  | 0 => 0
  | i + 1 => rrTo n xs i + (xs.getD i 0 - (lessIn (xs.getD i 0) (xs.take i) : Int)) * (fac (n - 1 - i) : Int)
theorem free_is {n : Nat} {xs : List Int} (hl : xs.length = n) (h : digTo n xs n = 0) {i : Nat} (hi : i < n) : xs.getD i 0 - (lessIn (xs.getD i 0) (xs.take i) : Int) = (lessIn (xs.getD i 0) (xs.drop (i + 1)) : Int) := by
  obtain ⟨hd, hb⟩ := dig_nodup hl h n (Nat.le_refl _)
  rw [List.take_of_length_le (by omega)] at hd hb
  have hx := getD_at (l := xs) (k := i) (by omega)
  have hbx := hb _ (List.mem_of_getElem? hx)
  have h1 := less_all hl hd hb hbx.1 (by omega)
  have hs : xs = xs.take i ++ ([xs.getD i 0] ++ xs.drop (i + 1)) := by
    have := List.getElem_cons_drop (as := xs) (i := i) (by omega)
    rw [List.singleton_append, show xs.getD i 0 = xs[i] from by simp [List.getD, List.getElem?_eq_getElem (show i < xs.length by omega)], this, List.take_append_drop]
  rw [hs] at h1
  rw [← hs] at h1
  have h2 : lessIn (xs.getD i 0) xs = lessIn (xs.getD i 0) (xs.take i) + (lessIn (xs.getD i 0) [xs.getD i 0] + lessIn (xs.getD i 0) (xs.drop (i + 1))) := by
    rw [← lessIn_app, ← lessIn_app, ← hs]
  have h3 : lessIn (xs.getD i 0) [xs.getD i 0] = 0 := by simp [lessIn]
  omega
theorem rank_two {n : Nat} {xs : List Int} (hl : xs.length = n) (h : digTo n xs n = 0) : ∀ i, i ≤ n → rankTo n xs i * (fac (n - i) : Int) = rrTo n xs i
  | 0, _ => by simp [rankTo, rrTo]
  | i + 1, hi => by
    have ih := rank_two hl h i (by omega)
    have hf := free_is hl h (i := i) (by omega)
    rw [rankTo, rrTo, hf, ← ih]
    obtain ⟨m, hm⟩ : ∃ m, n - i = m + 1 := ⟨n - i - 1, by omega⟩
    have e1 : n - (i + 1) = m := by omega
    have e2 : n - 1 - i = m := by omega
    have e3 : (n : Int) - i = ((m + 1 : Nat) : Int) := by omega
    rw [e1, e2, hm, fac, e3, Int.natCast_mul, Int.add_mul, Int.mul_assoc]
theorem rank_same {n : Nat} {xs : List Int} (hl : xs.length = n) (h : digTo n xs n = 0) : rankTo n xs n = rrTo n xs n := by
  have := rank_two hl h n (Nat.le_refl _)
  rw [Nat.sub_self] at this
  simpa [fac] using this
def pow12 : Nat → Int
  | 0 => 1
  | k + 1 => pow12 k * 12
theorem pow12_le : ∀ {k : Nat}, k ≤ 12 → 1 ≤ pow12 k ∧ pow12 k ≤ 8916100448256 := by
  intro k hk
  have : ∀ k : Fin 13, 1 ≤ pow12 k ∧ pow12 k ≤ 8916100448256 := by decide
  exact this ⟨k, by omega⟩
theorem rank_bound {n : Nat} {xs : List Int} (hn : n ≤ 12) (hl : xs.length = n) : ∀ i, i ≤ n → 0 ≤ rankTo n xs i ∧ rankTo n xs i < pow12 i
  | 0, _ => by simp [rankTo, pow12]
  | i + 1, hi => by
    have ih := rank_bound hn hl i (by omega)
    have h1 := lessIn_le (xs.getD i 0) (xs.drop (i + 1))
    rw [List.length_drop, hl] at h1
    rw [rankTo, pow12]
    obtain ⟨R, hR⟩ : ∃ R, rankTo n xs i = R := ⟨_, rfl⟩
    rw [hR] at ih ⊢
    have h2 : 0 ≤ R * ((n : Int) - i) := Int.mul_nonneg ih.1 (by omega)
    have h3 : R * ((n : Int) - i) ≤ R * 12 := Int.mul_le_mul_of_nonneg_left (by omega) ih.1
    omega
theorem rank_small {n : Nat} {xs : List Int} (hn : n ≤ 12) (hl : xs.length = n) {i : Nat} (hi : i ≤ n) : 0 ≤ rankTo n xs i ∧ rankTo n xs i < 8916100448256 := by
  have h1 := rank_bound hn hl i hi
  have h2 := pow12_le (k := i) (by omega)
  omega

/-- The permutation of a rank, out of the numbers that are left. -/
def unr : List Nat → Nat → Nat → List Nat
  | _, 0, _ => []
  | left, m + 1, r => left.getD (r / fac m) 0 :: unr (left.eraseIdx (r / fac m)) m (r % fac m)
/-- The same, the numbers of the rest being raised. -/
def nth : Nat → Nat → List Nat
  | 0, _ => []
  | m + 1, r => r / fac m :: (nth m (r % fac m)).map fun x => if r / fac m ≤ x then x + 1 else x
theorem first_lt {m r : Nat} (h : r < fac (m + 1)) : r / fac m < m + 1 := by
  rw [Nat.div_lt_iff_lt_mul (fac_pos m)]; exact h
theorem nth_len : ∀ m r, (nth m r).length = m
  | 0, _ => rfl
  | m + 1, r => by simp [nth, nth_len m]
theorem nth_lt : ∀ m r, r < fac m → ∀ x ∈ nth m r, x < m
  | 0, _, _, x, hx => by simp [nth] at hx
  | m + 1, r, h, x, hx => by
    have hk := first_lt h
    rw [nth, List.mem_cons, List.mem_map] at hx
    rcases hx with rfl | ⟨y, hy, rfl⟩
    · exact hk
    · have := nth_lt m (r % fac m) (Nat.mod_lt _ (fac_pos m)) y hy
      split <;> omega
theorem unr_is : ∀ m r left, r < fac m → left.length = m → unr left m r = (nth m r).map fun x => left.getD x 0
  | 0, _, _, _, _ => rfl
  | m + 1, r, left, h, hl => by
    have hk := first_lt h
    have hm := Nat.mod_lt r (fac_pos m)
    rw [unr, nth, List.map_cons, List.map_map]
    congr 1
    rw [unr_is m (r % fac m) (left.eraseIdx (r / fac m)) hm (by rw [List.length_eraseIdx]; simp [show r / fac m < left.length by omega]; omega)]
    apply List.map_congr_left
    intro x hx
    have hxm := nth_lt m _ hm x hx
    simp only [Function.comp, List.getD, List.getElem?_eraseIdx]
    by_cases e : r / fac m ≤ x
    · rw [if_pos e, if_neg (by omega)]
    · rw [if_neg e, if_pos (by omega)]
theorem unr_range {m r : Nat} (h : r < fac m) : unr (List.range m) m r = nth m r := by
  rw [unr_is m r _ h (by simp)]
  have : ∀ x ∈ nth m r, (List.range m).getD x 0 = x := by
    intro x hx
    have := nth_lt m r h x hx
    simp [List.getD, this]
  rw [List.map_congr_left this]
  simp
theorem unr_len : ∀ m r left, (unr left m r).length = m
  | 0, _, _ => rfl
  | m + 1, r, left => by rw [unr, List.length_cons, unr_len m]
/-- Numbers as Go has them. -/
def casts (l : List Nat) : List Int := l.map fun (x : Nat) => (x : Int)
theorem casts_at {l : List Nat} {k : Nat} {x : Nat} (h : l[k]? = some x) : (casts l)[k]? = some (x : Int) := by simp [casts, h]
theorem casts_append (a b : List Nat) : casts (a ++ b) = casts a ++ casts b := by simp [casts]
theorem casts_len (l : List Nat) : (casts l).length = l.length := by simp [casts]
end Go.Proofs.YtkliebhpdcjdgaaDoor
