/-
  Plain words for shares of room: what is wrong with demands; what each gets, by rising demand; the one of least place among those that are left; how often all is halved. No program is named here.
-/
import Derived.Test.YtkliebhpdcjdgaaSortP2
import Derived.Test.YtkliebhpdcjdgaaTableP
namespace Go.Proofs.Ytkliebhpdcjdgaa

def wtErr (room : Int) (n : Nat) (l : List Int) : Int := if 40 < n then 2 else if cntsTo l n = true ∧ isCnt room = true then 0 else 1
/-- What number x wants. -/
def kap (l : List Int) (x : Int) : Int := el l x.toNat
theorem kap_nat (l : List Int) (k : Nat) : kap l (k : Int) = el l k := by simp [kap]
/-- What is left, and what the next one gets. -/
def fStep (l o : List Int) (n t : Nat) (r : Int) : Int := if r / ((n : Int) - t) < kap l (el o t) then r / ((n : Int) - t) else kap l (el o t)
def fRoom (l o : List Int) (n : Nat) (room : Int) : Nat → Int
  | 0 => room
  | t + 1 => fRoom l o n room t - fStep l o n t (fRoom l o n room t)
def fVal (l o : List Int) (n : Nat) (room : Int) (t : Nat) : Int := fStep l o n t (fRoom l o n room t)
def fOut (l o : List Int) (n : Nat) (room : Int) : Nat → List Int
  | 0 => List.replicate n 0
  | t + 1 => (fOut l o n room t).set (el o t).toNat (fVal l o n room t)
theorem fOut_len (l o : List Int) (n : Nat) (room : Int) : ∀ t, (fOut l o n room t).length = n
  | 0 => by simp [fOut]
  | t + 1 => by rw [fOut, List.length_set, fOut_len l o n room t]
structure Wts (n : Nat) (l : List Int) : Prop where
  len : l.length = n
  cnt : ∀ i, i < n → 0 ≤ el l i ∧ el l i ≤ 1000000000000
theorem wts_of {room : Int} {n : Nat} {l : List Int} (hl : l.length = n) (h : wtErr room n l = 0) : n ≤ 40 ∧ Wts n l ∧ 0 ≤ room ∧ room ≤ 1000000000000 := by
  unfold wtErr at h
  by_cases h1 : 40 < n
  · rw [if_pos h1] at h; omega
  · rw [if_neg h1] at h
    by_cases h2 : cntsTo l n = true ∧ isCnt room = true
    · have h3 := isCnt_of h2.2
      exact ⟨by omega, ⟨hl, fun i hi => isCnt_of (okTo_at n h2.1 hi)⟩, h3.1, h3.2⟩
    · rw [if_neg h2] at h; omega
theorem fRoom_bd {l o : List Int} {n : Nat} {room : Int} (hw : Wts n l) (ho : Pm n o) (r0 : 0 ≤ room) : ∀ t, t ≤ n → 0 ≤ fRoom l o n room t ∧ fRoom l o n room t ≤ room
  | 0, _ => ⟨r0, Int.le_refl _⟩
  | t + 1, ht => by
    obtain ⟨h1, h2⟩ := fRoom_bd hw ho r0 t (by omega)
    obtain ⟨v, hv, he⟩ := ho.rng t (by omega)
    have hk := hw.cnt v hv
    rw [fRoom]
    have hs : 0 ≤ fStep l o n t (fRoom l o n room t) ∧ fStep l o n t (fRoom l o n room t) ≤ fRoom l o n room t := by
      unfold fStep
      rw [he, kap_nat]
      have hd : 0 ≤ fRoom l o n room t / ((n : Int) - t) := Int.ediv_nonneg h1 (by omega)
      have hd2 : fRoom l o n room t / ((n : Int) - t) ≤ fRoom l o n room t := Int.ediv_le_self _ h1
      split <;> omega
    omega
theorem rem_div {r d : Int} (h0 : 0 ≤ r) (hd : 0 < d) : (r - r % d) / d = r / d := by
  have h1 := Int.emod_add_mul_ediv r d
  have : r - r % d = d * (r / d) := by omega
  rw [this, Int.mul_ediv_cancel_left _ (by omega)]
/-- Who has something already. -/
def hasL (o : List Int) (n : Nat) : Nat → List Bool
  | 0 => List.replicate n false
  | t + 1 => (hasL o n t).set (el o t).toNat true
theorem hasL_len (o : List Int) (n : Nat) : ∀ t, (hasL o n t).length = n
  | 0 => by simp [hasL]
  | t + 1 => by rw [hasL, List.length_set, hasL_len o n t]
theorem hasL_at {o : List Int} {n : Nat} (ho : Pm n o) {s : Nat} (hs : s < n) : ∀ t, t ≤ n → (hasL o n t)[(el o s).toNat]? = some (decide (s < t))
  | 0, _ => by
    obtain ⟨v, hv, he⟩ := ho.rng s hs
    rw [hasL, he, Int.toNat_natCast, List.getElem?_replicate, if_pos hv]; simp
  | t + 1, ht => by
    obtain ⟨v, hv, he⟩ := ho.rng s hs
    obtain ⟨u, hu, hue⟩ := ho.rng t (by omega)
    have ih := hasL_at ho hs t (by omega)
    by_cases e : s = t
    · subst e
      rw [hasL, List.getElem?_set_self (by rw [hasL_len, he, Int.toNat_natCast]; exact hv)]; simp
    · have hne : (el o t).toNat ≠ (el o s).toNat := fun h => by
        rw [he, hue, Int.toNat_natCast, Int.toNat_natCast] at h
        exact e (ho.inj s t hs (by omega) (by rw [he, hue, h]))
      rw [hasL, List.getElem?_set_ne hne, ih]
      congr 1
      by_cases h : s < t
      · simp [h]; omega
      · simp [h]; omega
/-- The best so far, among those whose number is below i and who have nothing. -/
inductive Best (o : List Int) (n t i : Nat) : Int → Prop
  | none : (∀ s, t ≤ s → s < n → ¬ el o s < i) → Best o n t i (-1)
  | some (s : Nat) : t ≤ s → s < n → el o s < i → (∀ s', t ≤ s' → s' < n → el o s' < i → s ≤ s') → Best o n t i (el o s)
theorem best_start {o : List Int} {n t : Nat} (ho : Pm n o) : Best o n t 0 (-1) := .none fun s _ hs h => by
  obtain ⟨v, hv, he⟩ := ho.rng s hs
  omega
theorem best_skip {o : List Int} {n t i si : Nat} {b : Int} (ho : Pm n o) (h : Best o n t i b) (hi : el o si = i) (hsi : si < t) (htn : t ≤ n) : Best o n t (i + 1) b := by
  have key : ∀ s, t ≤ s → s < n → el o s < ((i + 1 : Nat) : Int) → el o s < i := fun s h1 h2 h3 => by
    have hne : el o s ≠ i := fun e => by have := ho.inj s si h2 (by omega) (by rw [e, hi]); omega
    omega
  cases h with
  | none h => exact .none fun s h1 h2 h3 => h s h1 h2 (key s h1 h2 h3)
  | some s h1 h2 h3 h4 => exact .some s h1 h2 (by omega) fun s' h5 h6 h7 => h4 s' h5 h6 (key s' h5 h6 h7)
theorem best_first {o : List Int} {n t i si : Nat} (ho : Pm n o) {b : Int} (h : Best o n t i b) (hb : b < 0) (hi : el o si = i) (hsi : t ≤ si) (hsn : si < n) : Best o n t (i + 1) i := by
  rw [← hi]
  refine .some si hsi hsn (by omega) fun s' h1 h2 h3 => ?_
  cases h with
  | none h =>
    have h4 := h s' h1 h2
    have : el o s' = el o si := by omega
    have := ho.inj s' si h2 hsn this
    omega
  | some s h5 h6 h7 h8 =>
    obtain ⟨v, hv, he⟩ := ho.rng s h6
    omega
theorem best_less {l o : List Int} {n t i si : Nat} {b : Int} (ho : Pm n o) (hs : Srt (kap l) o 0 n) (h : Best o n t i b) (hb : 0 ≤ b) (hi : el o si = i) (hsi : t ≤ si) (hsn : si < n) (hc : el l i < kap l b) : Best o n t (i + 1) i := by
  cases h with
  | none h => omega
  | some s h1 h2 h3 h4 =>
    rw [← hi]
    refine .some si hsi hsn (by omega) fun s' h5 h6 h7 => ?_
    have hlt : si < s := by
      rcases Nat.lt_trichotomy si s with h | h | h
      · exact h
      · subst h; omega
      · have := hs s si (Nat.zero_le _) h hsn
        unfold Lt at this
        rw [hi, kap_nat] at this
        omega
    by_cases e : el o s' = i
    · have := ho.inj s' si h6 hsn (by rw [e, hi]); omega
    · have := h4 s' h5 h6 (by omega); omega
theorem best_keep {l o : List Int} {n t i si : Nat} {b : Int} (ho : Pm n o) (hs : Srt (kap l) o 0 n) (h : Best o n t i b) (hb : 0 ≤ b) (hi : el o si = i) (hsi : t ≤ si) (hsn : si < n) (hc : ¬ el l i < kap l b) : Best o n t (i + 1) b := by
  cases h with
  | none h => omega
  | some s h1 h2 h3 h4 =>
    refine .some s h1 h2 (by omega) fun s' h5 h6 h7 => ?_
    have hle : s ≤ si := by
      rcases Nat.lt_or_ge si s with h | h
      · have := hs si s (Nat.zero_le _) h h2
        unfold Lt at this
        rw [hi, kap_nat] at this
        omega
      · exact h
    by_cases e : el o s' = i
    · have := ho.inj s' si h6 hsn (by rw [e, hi]); omega
    · exact h4 s' h5 h6 (by omega)
theorem best_end {o : List Int} {n t : Nat} {b : Int} (ho : Pm n o) (h : Best o n t n b) (ht : t < n) : b = el o t := by
  obtain ⟨v, hv, he⟩ := ho.rng t ht
  cases h with
  | none h => exact absurd (by omega) (h t (Nat.le_refl _) ht)
  | some s h1 h2 h3 h4 =>
    have := h4 t (Nat.le_refl _) ht (by omega)
    have : s = t := by omega
    rw [this]
theorem best_range {o : List Int} {n t i : Nat} {b : Int} (ho : Pm n o) (h : Best o n t i b) : b = -1 ∨ ∃ v : Nat, v < n ∧ b = v := by
  cases h with
  | none h => exact .inl rfl
  | some s h1 h2 h3 h4 => exact .inr (by obtain ⟨v, hv, he⟩ := ho.rng s h2; exact ⟨v, hv, he⟩)
/-- The first that will do, -1: none. -/
def firstOk (ok : Nat → Bool) : Nat → Int
  | 0 => -1
  | m + 1 => if 0 ≤ firstOk ok m then firstOk ok m else if ok m = true then m else -1
theorem firstOk_none {ok : Nat → Bool} : ∀ m, (∀ j, j < m → ok j = false) → firstOk ok m = -1
  | 0, _ => rfl
  | m + 1, h => by
    have ih := firstOk_none m (fun j hj => h j (by omega))
    rw [firstOk, ih, if_neg (by omega), h m (by omega)]; simp
theorem firstOk_at {ok : Nat → Bool} {k : Nat} (h : ∀ j, j < k → ok j = false) (hk : ok k = true) : ∀ m, k < m → firstOk ok m = k
  | 0, hm => by omega
  | m + 1, hm => by
    by_cases e : k = m
    · subst e
      rw [firstOk, firstOk_none k h, if_neg (by omega), if_pos hk]
    · have ih := firstOk_at h hk m (by omega)
      rw [firstOk, ih, if_pos (by omega)]
/-- The sum of the first j, each halved k times. -/
def hsum (l : List Int) (k : Nat) : Nat → Int
  | 0 => 0
  | j + 1 => hsum l k j + el l j / (2 : Int) ^ k
theorem hsum_bd {l : List Int} {n k : Nat} (hw : Wts n l) : ∀ j, j ≤ n → 0 ≤ hsum l k j ∧ hsum l k j ≤ j * 1000000000000
  | 0, _ => by simp [hsum]
  | j + 1, hj => by
    obtain ⟨h1, h2⟩ := hsum_bd (k := k) hw j (by omega)
    obtain ⟨h3, h4⟩ := hw.cnt j (by omega)
    have h5 : 0 ≤ el l j / (2 : Int) ^ k := Int.ediv_nonneg h3 (Int.le_of_lt (Int.pow_pos (by decide)))
    have h6 : el l j / (2 : Int) ^ k ≤ el l j := Int.ediv_le_self _ h3
    rw [hsum]
    omega
def lvOk (room : Int) (l : List Int) (n k : Nat) : Bool := decide (hsum l k n ≤ room)
def lvl (room : Int) (l : List Int) (n : Nat) : Int := firstOk (lvOk room l n) 21
/-- All halved k times, of which the first j once more. -/
def halv (l : List Int) (k j : Nat) : List Int := l.mapIdx fun i x => if i < j then x / (2 : Int) ^ (k + 1) else x / (2 : Int) ^ k
theorem halv_len (l : List Int) (k j : Nat) : (halv l k j).length = l.length := by simp [halv]
theorem halv_zero (l : List Int) : halv l 0 0 = l := by
  apply List.ext_getElem?
  intro i
  simp [halv]
theorem halv_at {l : List Int} {k j i : Nat} (hi : i < l.length) (hj : j ≤ i) : (halv l k j)[i]? = some (el l i / (2 : Int) ^ k) := by
  simp only [halv, List.getElem?_mapIdx, el_at hi, Option.map_some, Option.some.injEq]
  rw [if_neg (by omega)]
theorem halv_set {l : List Int} {k j : Nat} (hj : j < l.length) : (halv l k j).set j (el l j / (2 : Int) ^ k / 2) = halv l k (j + 1) := by
  apply List.ext_getElem?
  intro i
  by_cases e : j = i
  · subst e
    rw [List.getElem?_set_self (by rw [halv_len]; exact hj)]
    simp only [halv, List.getElem?_mapIdx, el_at hj, Option.map_some, Option.some.injEq]
    rw [if_pos (by omega), Int.pow_succ, Int.ediv_ediv_of_nonneg (Int.le_of_lt (Int.pow_pos (by decide)))]
  · rw [List.getElem?_set_ne e]
    simp only [halv, List.getElem?_mapIdx]
    cases l[i]? with
    | none => rfl
    | some x =>
      simp only [Option.map_some, Option.some.injEq]
      by_cases h2 : i < j
      · rw [if_pos h2, if_pos (by omega)]
      · rw [if_neg h2, if_neg (by omega)]
theorem halv_all {l : List Int} {k n : Nat} (hl : l.length = n) : halv l k n = halv l (k + 1) 0 := by
  apply List.ext_getElem?
  intro i
  simp only [halv, List.getElem?_mapIdx]
  cases h : l[i]? with
  | none => rfl
  | some x =>
    have := (List.getElem?_eq_some_iff.1 h).1
    simp only [Option.map_some, Option.some.injEq]
    rw [if_pos (by omega), if_neg (by omega)]
end Go.Proofs.Ytkliebhpdcjdgaa
