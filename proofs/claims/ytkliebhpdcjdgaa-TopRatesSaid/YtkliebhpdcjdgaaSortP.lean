/-
  A stable sort in place, as a plain matter of lists: insertion, the merge by rotations. No program is named here.
-/
import Derived.Test.YtkliebhpdcjdgaaPlain
namespace Go.Proofs.Ytkliebhpdcjdgaa

def el (xs : List Int) (i : Nat) : Int := xs.getD i 0
theorem el_of {xs : List Int} {i : Nat} {x : Int} (h : xs[i]? = some x) : el xs i = x := getD_of h
theorem el_at {xs : List Int} {i : Nat} (h : i < xs.length) : xs[i]? = some (el xs i) := getD_at h
/-- Two places exchanged. -/
def swp (xs : List Int) (i j : Nat) : List Int := (xs.set i (el xs j)).set j (el xs i)
theorem swp_len (xs : List Int) (i j : Nat) : (swp xs i j).length = xs.length := by simp [swp]
theorem el_swp {xs : List Int} {i j : Nat} (hi : i < xs.length) (hj : j < xs.length) (k : Nat) : el (swp xs i j) k = if k = j then el xs i else if k = i then el xs j else el xs k := by
  unfold el swp
  simp only [List.getD, List.getElem?_set]
  by_cases h1 : k = j
  · subst h1; simp [hj, el, List.getD]
  · rw [if_neg (Ne.symm h1), if_neg h1]
    by_cases h2 : k = i
    · subst h2; simp [hi, el, List.getD]
    · rw [if_neg (Ne.symm h2), if_neg h2]
/-- Each number below n stands once. -/
structure Pm (n : Nat) (xs : List Int) : Prop where
  len : xs.length = n
  rng : ∀ i, i < n → ∃ v : Nat, v < n ∧ el xs i = v
  inj : ∀ i j, i < n → j < n → el xs i = el xs j → i = j
  sur : ∀ v : Nat, v < n → ∃ i, i < n ∧ el xs i = v
theorem Pm.swp {n : Nat} {xs : List Int} (h : Pm n xs) {i j : Nat} (hi : i < n) (hj : j < n) : Pm n (swp xs i j) := by
  have hl := h.len
  have e := fun k => el_swp (xs := xs) (i := i) (j := j) (by omega) (by omega) k
  refine ⟨by rw [swp_len]; exact hl, fun k hk => ?_, fun k l hk hl2 hkl => ?_, fun v hv => ?_⟩
  · rw [e]
    by_cases h1 : k = j
    · rw [if_pos h1]; exact h.rng i hi
    · rw [if_neg h1]
      by_cases h2 : k = i
      · rw [if_pos h2]; exact h.rng j hj
      · rw [if_neg h2]; exact h.rng k hk
  · rw [e, e] at hkl
    by_cases h1 : k = j
    · rw [if_pos h1] at hkl
      by_cases h3 : l = j
      · omega
      · rw [if_neg h3] at hkl
        by_cases h4 : l = i
        · rw [if_pos h4] at hkl; have := h.inj _ _ hi hj hkl; omega
        · rw [if_neg h4] at hkl; have := h.inj _ _ hi hl2 hkl; omega
    · rw [if_neg h1] at hkl
      by_cases h2 : k = i
      · rw [if_pos h2] at hkl
        by_cases h3 : l = j
        · rw [if_pos h3] at hkl; have := h.inj _ _ hj hi hkl; omega
        · rw [if_neg h3] at hkl
          by_cases h4 : l = i
          · omega
          · rw [if_neg h4] at hkl; have := h.inj _ _ hj hl2 hkl; omega
      · rw [if_neg h2] at hkl
        by_cases h3 : l = j
        · rw [if_pos h3] at hkl; have := h.inj _ _ hk hi hkl; omega
        · rw [if_neg h3] at hkl
          by_cases h4 : l = i
          · rw [if_pos h4] at hkl; have := h.inj _ _ hk hj hkl; omega
          · rw [if_neg h4] at hkl; exact h.inj _ _ hk hl2 hkl
  · obtain ⟨k, hk, hv2⟩ := h.sur v hv
    by_cases h1 : k = i
    · refine ⟨j, hj, ?_⟩
      rw [e, if_pos rfl, ← h1]; exact hv2
    · by_cases h2 : k = j
      · refine ⟨i, hi, ?_⟩
        rw [e]
        by_cases h3 : i = j
        · omega
        · rw [if_neg h3, if_pos rfl, ← h2]; exact hv2
      · refine ⟨k, hk, ?_⟩
        rw [e, if_neg h2, if_neg h1]; exact hv2
/-- ys is xs with its places from a to b moved among themselves. -/
structure Mv (n a b : Nat) (xs ys : List Int) : Prop where
  len : ys.length = xs.length
  out : ∀ i, i < a ∨ b ≤ i → el ys i = el xs i
  inn : ∀ i, a ≤ i → i < b → ∃ j, a ≤ j ∧ j < b ∧ el ys i = el xs j
  pm : Pm n xs → Pm n ys
theorem Mv.refl (n a b : Nat) (xs : List Int) : Mv n a b xs xs := ⟨rfl, fun _ _ => rfl, fun i h1 h2 => ⟨i, h1, h2, rfl⟩, fun h => h⟩
theorem Mv.trans {n a b : Nat} {xs ys zs : List Int} (h1 : Mv n a b xs ys) (h2 : Mv n a b ys zs) : Mv n a b xs zs :=
  ⟨h2.len.trans h1.len, fun i hi => (h2.out i hi).trans (h1.out i hi), fun i ha hb => by
    obtain ⟨j, h3, h4, e⟩ := h2.inn i ha hb
    obtain ⟨k, h5, h6, e2⟩ := h1.inn j h3 h4
    exact ⟨k, h5, h6, e.trans e2⟩, fun h => h2.pm (h1.pm h)⟩
theorem Mv.mono {n a b a' b' : Nat} {xs ys : List Int} (h : Mv n a b xs ys) (ha : a' ≤ a) (hb : b ≤ b') : Mv n a' b' xs ys :=
  ⟨h.len, fun i hi => h.out i (by omega), fun i h1 h2 => by
    by_cases hc : i < a ∨ b ≤ i
    · exact ⟨i, h1, h2, h.out i hc⟩
    · obtain ⟨j, h3, h4, e⟩ := h.inn i (by omega) (by omega)
      exact ⟨j, by omega, by omega, e⟩, h.pm⟩
theorem Mv.swp {n a b : Nat} {xs : List Int} (hl : xs.length = n) {i j : Nat} (hi : a ≤ i ∧ i < b) (hj : a ≤ j ∧ j < b) (hb : b ≤ n) : Mv n a b xs (swp xs i j) := by
  have e := fun k => el_swp (xs := xs) (i := i) (j := j) (by omega) (by omega) k
  refine ⟨swp_len _ _ _, fun k hk => ?_, fun k h1 h2 => ?_, fun h => h.swp (by omega) (by omega)⟩
  · rw [e, if_neg (by omega), if_neg (by omega)]
  · rw [e]
    by_cases h3 : k = j
    · rw [if_pos h3]; exact ⟨i, hi.1, hi.2, rfl⟩
    · rw [if_neg h3]
      by_cases h4 : k = i
      · rw [if_pos h4]; exact ⟨j, hj.1, hj.2, rfl⟩
      · rw [if_neg h4]; exact ⟨k, h1, h2, rfl⟩

/-- Ahead of: by what it counts, then by its number. -/
def Lt (κ : Int → Int) (x y : Int) : Prop := κ x < κ y ∨ (κ x = κ y ∧ x < y)
theorem Lt.trans {κ : Int → Int} {x y z : Int} (h1 : Lt κ x y) (h2 : Lt κ y z) : Lt κ x z := by unfold Lt at *; omega
theorem Lt.of {κ : Int → Int} {x y : Int} (h : κ x < κ y) : Lt κ x y := .inl h
theorem Lt.not {κ : Int → Int} {x y : Int} (h : ¬ κ y < κ x) (hs : κ x = κ y → x < y) : Lt κ x y := by
  unfold Lt
  by_cases e : κ x = κ y
  · exact .inr ⟨e, hs e⟩
  · exact .inl (by omega)
def Srt (κ : Int → Int) (xs : List Int) (a b : Nat) : Prop := ∀ i j, a ≤ i → i < j → j < b → Lt κ (el xs i) (el xs j)
/-- Of the same count the earlier one has the lesser number. -/
def Stb (κ : Int → Int) (xs : List Int) (a b : Nat) : Prop := ∀ i j, a ≤ i → i < j → j < b → κ (el xs i) = κ (el xs j) → el xs i < el xs j
def Crs (κ : Int → Int) (xs : List Int) (a m b : Nat) : Prop := ∀ i j, a ≤ i → i < m → m ≤ j → j < b → κ (el xs i) = κ (el xs j) → el xs i < el xs j
theorem Srt.le {κ : Int → Int} {xs : List Int} {a b : Nat} (h : Srt κ xs a b) {a' b' : Nat} (ha : a ≤ a') (hb : b' ≤ b) : Srt κ xs a' b' := fun i j h1 h2 h3 => h i j (by omega) h2 (by omega)
theorem Stb.crs {κ : Int → Int} {xs ys : List Int} {n a m b : Nat} (h : Stb κ xs a b) {zs : List Int} (h1 : Mv n a m xs ys) (h2 : Mv n m b ys zs) : Crs κ zs a m b := fun i j hi him hj hjb => by
  rw [h2.out i (by omega)]
  obtain ⟨p, hp1, hp2, e1⟩ := h1.inn i hi him
  obtain ⟨q, hq1, hq2, e2⟩ := h2.inn j hj hjb
  rw [e1, e2, h1.out q (by omega)]
  exact h p q hp1 (by omega) hq2

/-- The number that is being put in stands at j, all others up to k in order. -/
structure InsS (κ : Int → Int) (zs : List Int) (a j k : Nat) (v : Int) : Prop where
  here : el zs j = v
  rest : ∀ p q, a ≤ p → p < q → q ≤ k → p ≠ j → q ≠ j → Lt κ (el zs p) (el zs q)
  past : ∀ q, j < q → q ≤ k → Lt κ v (el zs q)
  stb : ∀ p, a ≤ p → p ≤ k → p ≠ j → κ (el zs p) = κ v → el zs p < v
section
variable {κ : Int → Int} {xs ys zs : List Int} {n a b k j : Nat} {v : Int}
theorem ins_start (h : Srt κ ys a k) (hm : Mv n a k xs ys) (hs : Stb κ xs a b) (hk : k < b) : InsS κ ys a k k (el ys k) :=
  ⟨rfl, fun p q h1 h2 h3 _ h5 => h p q h1 h2 (by omega), fun q h1 h2 => by omega, fun p h1 h2 h3 he => by
    obtain ⟨q, hq1, hq2, e⟩ := hm.inn p h1 (by omega)
    rw [hm.out k (by omega)] at he ⊢
    rw [e] at he ⊢
    exact hs q k hq1 hq2 hk he⟩
theorem ins_step (h : InsS κ zs a j k v) (ha : a < j) (hj : j ≤ k) (hl : k < zs.length) (hc : κ v < κ (el zs (j - 1))) : InsS κ (swp zs j (j - 1)) a (j - 1) k v := by
  have e := fun p => el_swp (xs := zs) (i := j) (j := j - 1) (by omega) (by omega) p
  refine ⟨by rw [e, if_pos rfl]; exact h.here, fun p q h1 h2 h3 h4 h5 => ?_, fun q h1 h2 => ?_, fun p h1 h2 h3 he => ?_⟩
  · rw [e, e, if_neg h4, if_neg h5]
    by_cases p1 : p = j
    · rw [if_pos p1, if_neg (by omega)]
      exact h.rest _ _ (by omega) (by omega) h3 (by omega) (by omega)
    · rw [if_neg p1]
      by_cases q1 : q = j
      · rw [if_pos q1]
        exact h.rest _ _ h1 (by omega) (by omega) (by omega) (by omega)
      · rw [if_neg q1]
        exact h.rest _ _ h1 h2 h3 p1 q1
  · rw [e, if_neg (by omega)]
    by_cases q1 : q = j
    · rw [if_pos q1]; exact .of hc
    · rw [if_neg q1]; exact h.past q (by omega) h2
  · rw [e, if_neg h3] at he ⊢
    by_cases p1 : p = j
    · rw [if_pos p1] at he ⊢
      exact h.stb _ (by omega) (by omega) (by omega) he
    · rw [if_neg p1] at he ⊢
      exact h.stb p h1 h2 p1 he
theorem ins_done (h : InsS κ zs a j k v) (hj : j ≤ k) (hc : a < j → ¬ κ v < κ (el zs (j - 1))) (ha : a ≤ j) : Srt κ zs a (k + 1) := by
  have key : ∀ p, a ≤ p → p < j → Lt κ (el zs p) v := by
    intro p h1 h2
    have hl : Lt κ (el zs (j - 1)) v := .not (hc (by omega)) (h.stb _ (by omega) (by omega) (by omega))
    by_cases e : p = j - 1
    · subst e; exact hl
    · exact (h.rest p (j - 1) h1 (by omega) (by omega) (by omega) (by omega)).trans hl
  intro p q h1 h2 h3
  by_cases p1 : p = j
  · rw [p1, h.here]; exact h.past q (by omega) (by omega)
  · by_cases q1 : q = j
    · rw [q1, h.here]; exact key p h1 (by omega)
    · exact h.rest p q h1 h2 (by omega) p1 q1
end
/-- Where what stands at k behind a rotation stood. -/
def rotI (a m b k : Nat) : Nat := if k < a then k else if k < a + (b - m) then k + (m - a) else if k < b then k - (b - m) else k
def swI (a b n k : Nat) : Nat := if a ≤ k ∧ k < a + n then k + (b - a) else if b ≤ k ∧ k < b + n then k - (b - a) else k
theorem rot_left {m i j : Nat} (hi : i ≤ m) (h : j < i) (hj : 0 < j) (k : Nat) : swI (m - i) m j (rotI (m - i + j) m (m + j) k) = rotI (m - i) m (m + j) k := by
  unfold rotI swI
  split <;> (try split) <;> (try split) <;> (try split) <;> (try split) <;> (try split) <;> (try split) <;> omega
end Go.Proofs.Ytkliebhpdcjdgaa
