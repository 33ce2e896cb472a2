/-
  Traces on plain lists: who is part of whom, and the least level of each with its parts. No program in sight.
-/
import Derived.Test.YtgejpinepkockaaPlain
import Derived.Test.YtgejpinepkockaaOpen2
namespace Go.Proofs.Ytgejpinepkockaa

/-- May the k-th span be? -/
def spanOk (ps : List (Int × Int)) (k : Nat) : Bool := decide (-1 ≤ (ps.getD k (0, 0)).1 ∧ (ps.getD k (0, 0)).1 < (k : Int) ∧ 0 ≤ (ps.getD k (0, 0)).2 ∧ (ps.getD k (0, 0)).2 ≤ 20)
def spanErr (n : Nat) (ps : List (Int × Int)) : Int := if 40 < n then 2 else if okTo (spanOk ps) n = true then 0 else 1
/-- From j on upwards one comes to i; whoever is left has a number from m on. -/
inductive Rch (ps : List (Int × Int)) (m : Nat) : Nat → Nat → Prop
  | here (i : Nat) : Rch ps m i i
  | up {j u i : Nat} {l : Int} : m ≤ j → ps[j]? = some ((u : Int), l) → Rch ps m u i → Rch ps m j i
theorem Rch.mono {ps : List (Int × Int)} {m m' j i : Nat} (h : Rch ps m j i) (hm : m' ≤ m) : Rch ps m' j i := by
  induction h with
  | here i => exact .here i
  | up h1 h2 _ ih => exact .up (by omega) h2 ih
/-- Parents come first. -/
def Ups (ps : List (Int × Int)) : Prop := ∀ (j : Nat) (u l : Int), ps[j]? = some (u, l) → u < (j : Int)
theorem Rch.le {ps : List (Int × Int)} (hu : Ups ps) {m j i : Nat} (h : Rch ps m j i) : i ≤ j := by
  induction h with
  | here i => exact Nat.le_refl _
  | up h1 h2 _ ih => have := hu _ _ _ h2; omega
theorem Rch.tail {ps : List (Int × Int)} {m j k : Nat} (h : Rch ps m j k) {i : Nat} {l : Int} (hm : m ≤ k) (hk : ps[k]? = some ((i : Int), l)) : Rch ps m j i := by
  induction h with
  | here k => exact .up hm hk (.here i)
  | up h1 h2 _ ih => exact .up h1 h2 (ih hm hk)
theorem Rch.step {ps : List (Int × Int)} (hu : Ups ps) {m : Nat} {u : Int} {l : Int} (hm : ps[m]? = some (u, l)) {j i : Nat} : Rch ps m j i ↔ Rch ps (m + 1) j i ∨ (Rch ps (m + 1) j m ∧ u = (i : Int)) := by
  constructor
  · intro h
    induction h with
    | here i => exact .inl (.here i)
    | @up j v i l' h1 h2 h3 ih =>
      by_cases e : j = m
      · subst e
        rw [hm] at h2
        injection h2 with h2
        injection h2 with h2a h2b
        subst h2a
        right
        refine ⟨.here _, ?_⟩
        cases h3 with
        | here => rfl
        | up g1 g2 g3 => have := hu _ _ _ hm; omega
      · rcases ih with ih | ⟨ih, e2⟩
        · exact .inl (.up (by omega) h2 ih)
        · exact .inr ⟨.up (by omega) h2 ih, e2⟩
  · rintro (h | ⟨h, rfl⟩)
    · exact h.mono (by omega)
    · exact (h.mono (show m ≤ m + 1 by omega)).tail (Nat.le_refl _) hm
/-- The levels when all spans from m on have been handed up. -/
def mendStep (ps : List (Int × Int)) (m : Nat) (L : List Int) : List Int :=
  if (ps.getD m (0, 0)).1 < 0 then L else L.set (ps.getD m (0, 0)).1.toNat (min (L.getD (ps.getD m (0, 0)).1.toNat 0) (L.getD m 0))
def mendTo (ps : List (Int × Int)) (n : Nat) : Nat → List Int
  | 0 => ps.map Prod.snd
  | d + 1 => mendStep ps (n - (d + 1)) (mendTo ps n d)
theorem mendStep_len (ps : List (Int × Int)) (m : Nat) (L : List Int) : (mendStep ps m L).length = L.length := by
  unfold mendStep; split <;> simp
theorem mendTo_len (ps : List (Int × Int)) (n : Nat) : ∀ d, (mendTo ps n d).length = ps.length
  | 0 => by simp [mendTo]
  | d + 1 => by rw [mendTo, mendStep_len, mendTo_len ps n d]
theorem mend_is {ps : List (Int × Int)} {n : Nat} (hl : ps.length = n) (hu : Ups ps) : ∀ d, d ≤ n → ∀ i x, (mendTo ps n d)[i]? = some x → ∀ v : Int, v ≤ x ↔ ∀ j p, ps[j]? = some p → Rch ps (n - d) j i → v ≤ p.2
  | 0, _, i, x, hx, v => by
    simp only [mendTo, List.getElem?_map, Option.map_eq_some_iff] at hx
    obtain ⟨p, hp, rfl⟩ := hx
    constructor
    · intro hv j q hq hr
      cases hr with
      | here => rw [hp] at hq; injection hq with hq; subst hq; exact hv
      | up g1 g2 g3 => have := (List.getElem?_eq_some_iff.1 hq).1; omega
    · intro h
      exact h i p hp (.here i)
  | d + 1, hd, i, x, hx, v => by
    obtain ⟨m, hm⟩ : ∃ m, n - (d + 1) = m := ⟨_, rfl⟩
    have hm1 : n - d = m + 1 := by omega
    have ih := mend_is hl hu d (by omega)
    rw [hm1] at ih
    rw [mendTo, hm] at hx
    rw [hm]
    have hmp : ps[m]? = some (ps.getD m (0, 0)) := by
      rw [List.getD, List.getElem?_eq_getElem (by omega)]; rfl
    obtain ⟨⟨u, l⟩, hul⟩ : ∃ q, ps.getD m (0, 0) = q := ⟨_, rfl⟩
    rw [hul] at hmp
    unfold mendStep at hx
    rw [hul] at hx
    dsimp only at hx
    have hum := hu _ _ _ hmp
    by_cases h0 : u < 0
    · rw [if_pos h0] at hx
      rw [ih i x hx v]
      constructor
      · intro h j p hp hr
        rcases (Rch.step hu hmp).1 hr with hr | ⟨_, e⟩
        · exact h j p hp hr
        · omega
      · intro h j p hp hr
        exact h j p hp ((Rch.step hu hmp).2 (.inl hr))
    · rw [if_neg h0] at hx
      obtain ⟨k, rfl⟩ := Int.eq_ofNat_of_zero_le (show 0 ≤ u by omega)
      rw [Int.toNat_natCast] at hx
      have hkl : k < (mendTo ps n d).length := by rw [mendTo_len]; omega
      have hml : m < (mendTo ps n d).length := by rw [mendTo_len]; omega
      have hk := getD_at hkl
      have hmm := getD_at hml
      by_cases hik : k = i
      · subst hik
        rw [List.getElem?_set_self hkl] at hx
        injection hx with hx
        subst hx
        rw [Int.le_min, ih k _ hk v, ih m _ hmm v]
        constructor
        · rintro ⟨h1, h2⟩ j p hp hr
          rcases (Rch.step hu hmp).1 hr with hr | ⟨hr, _⟩
          · exact h1 j p hp hr
          · exact h2 j p hp hr
        · intro h
          exact ⟨fun j p hp hr => h j p hp ((Rch.step hu hmp).2 (.inl hr)), fun j p hp hr => h j p hp ((Rch.step hu hmp).2 (.inr ⟨hr, rfl⟩))⟩
      · rw [List.getElem?_set_ne hik] at hx
        rw [ih i x hx v]
        constructor
        · intro h j p hp hr
          rcases (Rch.step hu hmp).1 hr with hr | ⟨_, e⟩
          · exact h j p hp hr
          · omega
        · intro h j p hp hr
          exact h j p hp ((Rch.step hu hmp).2 (.inl hr))
/-- The same, reckoned by looking at all spans; b: is j part of i? -/
def leastTo (ps : List (Int × Int)) (b : Nat → Bool) (x : Int) : Nat → Int
  | 0 => x
  | k + 1 => if b k = true ∧ (ps.getD k (0, 0)).2 < leastTo ps b x k then (ps.getD k (0, 0)).2 else leastTo ps b x k
theorem leastTo_is {ps : List (Int × Int)} {b : Nat → Bool} {x : Int} : ∀ k, k ≤ ps.length → ∀ v : Int, v ≤ leastTo ps b x k ↔ v ≤ x ∧ ∀ j p, j < k → ps[j]? = some p → b j = true → v ≤ p.2
  | 0, _, v => by simp [leastTo]
  | k + 1, hk, v => by
    have ih := leastTo_is (ps := ps) (b := b) (x := x) k (by omega) v
    have hkp : ps[k]? = some (ps.getD k (0, 0)) := by
      rw [List.getD, List.getElem?_eq_getElem (by omega)]; rfl
    obtain ⟨q, hq⟩ : ∃ q, ps.getD k (0, 0) = q := ⟨_, rfl⟩
    rw [hq] at hkp
    rw [leastTo, hq]
    by_cases h : b k = true ∧ q.2 < leastTo ps b x k
    · rw [if_pos h]
      constructor
      · intro hv
        have h1 := ih.1 (by omega)
        refine ⟨h1.1, fun j p hj hp hb => ?_⟩
        by_cases e : j = k
        · subst e; rw [hkp] at hp; injection hp with hp; subst hp; exact hv
        · exact h1.2 j p (by omega) hp hb
      · intro hv
        exact hv.2 k q (by omega) hkp h.1
    · rw [if_neg h]
      constructor
      · intro hv
        have h1 := ih.1 hv
        refine ⟨h1.1, fun j p hj hp hb => ?_⟩
        by_cases e : j = k
        · subst e; rw [hkp] at hp; injection hp with hp; subst hp
          have : ¬ q.2 < leastTo ps b x j := fun hlt => h ⟨hb, hlt⟩
          omega
        · exact h1.2 j p (by omega) hp hb
      · intro hv
        exact ih.2 ⟨hv.1, fun j p hj hp hb => hv.2 j p (by omega) hp hb⟩
/-- Is j part of i? -/
def Part (ps : List (Int × Int)) (i : Nat) (b : Nat → Bool) : Prop := ∀ j, b j = true ↔ Rch ps 0 j i
theorem part_is (ps : List (Int × Int)) (i : Nat) : ∃ b, Part ps i b :=
  ⟨fun j => @decide (Rch ps 0 j i) (Classical.propDecidable _), fun j => by simp⟩
theorem mend_least {ps : List (Int × Int)} {n : Nat} (hl : ps.length = n) (hu : Ups ps) {i : Nat} {p : Int × Int} (hp : ps[i]? = some p) {b : Nat → Bool} (hb : Part ps i b) : (mendTo ps n n)[i]? = some (leastTo ps b p.2 n) := by
  have hi : i < (mendTo ps n n).length := by rw [mendTo_len]; exact (List.getElem?_eq_some_iff.1 hp).1
  have hx := getD_at hi
  obtain ⟨x, hxe⟩ : ∃ x, (mendTo ps n n).getD i 0 = x := ⟨_, rfl⟩
  rw [hxe] at hx
  rw [hx]
  have key : ∀ v : Int, v ≤ x ↔ v ≤ leastTo ps b p.2 n := by
    intro v
    have h1 := mend_is hl hu n (Nat.le_refl _) i x hx v
    rw [Nat.sub_self] at h1
    rw [h1, leastTo_is n (by omega) v]
    constructor
    · intro h
      exact ⟨h i p hp (.here i), fun j q _ hq hj => h j q hq ((hb j).1 hj)⟩
    · rintro ⟨h1, h2⟩ j q hq hr
      exact h2 j q (by rw [← hl]; exact (List.getElem?_eq_some_iff.1 hq).1) hq ((hb j).2 hr)
  have h1 := (key x).1 (Int.le_refl _)
  have h2 := (key _).2 (Int.le_refl _)
  rw [Int.le_antisymm h1 h2]
/-- The mended trace. -/
def mended (ps : List (Int × Int)) (L : List Int) : List (Int × Int) := ps.zipWith (fun p x => (p.1, x)) L
theorem mended_at {ps : List (Int × Int)} {L : List Int} {i : Nat} {p : Int × Int} {x : Int} (hp : ps[i]? = some p) (hx : L[i]? = some x) : (mended ps L)[i]? = some (p.1, x) := by
  simp [mended, List.getElem?_zipWith, hp, hx]
theorem mended_len {ps : List (Int × Int)} {L : List Int} (h : L.length = ps.length) : (mended ps L).length = ps.length := by simp [mended, h]
theorem mended_set {ps : List (Int × Int)} {L : List Int} {k : Nat} {p : Int × Int} (hp : ps[k]? = some p) (x : Int) : (mended ps L).set k (p.1, x) = mended ps (L.set k x) := by
  apply List.ext_getElem?
  intro j
  by_cases e : k = j
  · subst e
    by_cases hk : k < L.length
    · rw [List.getElem?_set_self (by have := (List.getElem?_eq_some_iff.1 hp).1; simp [mended]; omega)]
      simp [mended, List.getElem?_zipWith, hp, hk]
    · have h1 : (mended ps (L.set k x))[k]? = none := by
        rw [List.getElem?_eq_none]; simp [mended]; omega
      rw [h1, List.getElem?_eq_none]
      simp [mended]; omega
  · rw [List.getElem?_set_ne e]
    simp [mended, List.getElem?_zipWith, List.getElem?_set_ne e]
theorem mended_self (ps : List (Int × Int)) : mended ps (ps.map Prod.snd) = ps := by
  apply List.ext_getElem?
  intro j
  simp only [mended, List.getElem?_zipWith, List.getElem?_map]
  cases ps[j]? <;> simp
end Go.Proofs.Ytgejpinepkockaa
