/-
  Levels by which all of it has room, as a plain matter: what is kept of counts that come in 64s. No program is named here.
-/
import Derived.Test.YtkliebhpdcjdgaaShareP
import Derived.Test.YtkliebhpdcjdgaaCumP
import Derived.Test.YtkliebhpdcjdgaaWithin
namespace Go.Proofs.Ytkliebhpdcjdgaa

/-- Counts that come in 64s, fewer than 20 of these. -/
def Fours (l : List Int) : Prop := ∀ x ∈ l, ∃ m : Nat, m < 20 ∧ x = 64 * (m : Int)
theorem Fours.snoc {l : List Int} (h : Fours l) {m : Nat} (hm : m < 20) : Fours (l ++ [64 * (m : Int)]) := by
  intro x hx
  rcases List.mem_append.1 hx with hx | hx
  · exact h x hx
  · rw [List.mem_singleton] at hx
    exact ⟨m, hm, hx⟩
theorem Fours.at_ {l : List Int} (h : Fours l) {k : Nat} {x : Int} (hx : l[k]? = some x) : ∃ m : Nat, m < 20 ∧ x = 64 * (m : Int) := h x (List.mem_of_getElem? hx)
theorem Fours.cnt {l : List Int} (h : Fours l) {k : Nat} {x : Int} (hx : l[k]? = some x) : 0 ≤ x ∧ x ≤ 1216 := by
  obtain ⟨m, hm, rfl⟩ := h.at_ hx
  omega
theorem Fours.err {l : List Int} {n : Nat} {room : Int} (h : Fours l) (hl : l.length = n) (hn : n ≤ 12) (r0 : 0 ≤ room) (r1 : room < 2000) : wtErr room n l = 0 := by
  unfold wtErr
  rw [if_neg (by omega), if_pos]
  refine ⟨okTo_of n fun i hi => ?_, inR_yes ⟨r0, by omega⟩⟩
  have := h.cnt (getD_at (l := l) (k := i) (by omega))
  exact inR_yes ⟨this.1, by omega⟩
theorem Fours.sum {l : List Int} (h : Fours l) : ∀ k, k ≤ l.length → 0 ≤ wsum l k ∧ wsum l k ≤ 1216 * (k : Int)
  | 0, _ => by simp [wsum]
  | k + 1, hk => by
    have ih := h.sum k (by omega)
    have := h.cnt (getD_at (l := l) (k := k) (by omega))
    rw [wsum]; omega
/-- The sum of all, halved six times. -/
theorem hsum_six {l : List Int} (h : Fours l) : ∀ j, j ≤ l.length → hsum l 6 j * 64 = wsum l j
  | 0, _ => rfl
  | j + 1, hj => by
    have ih := hsum_six h j (by omega)
    have hx := getD_at (l := l) (k := j) (by omega)
    obtain ⟨m, hm, e⟩ := h.at_ hx
    rw [hsum, wsum, Int.add_mul, ih]
    show wsum l j + el l j / 2 ^ 6 * 64 = wsum l j + l.getD j 0
    rw [show el l j = l.getD j 0 from rfl, e]
    omega
/-- How many of the first i draws of a count are kept at level k. -/
def kp (k i : Nat) : Nat := i / 64 * 2 ^ (6 - k) + (i % 64 - (64 - 2 ^ (6 - k)))
theorem kp_zero (k : Nat) : kp k 0 = 0 := by simp [kp]
theorem kp_next {k : Nat} (hk : k ≤ 6) (i : Nat) : kp k (i + 1) = kp k i + (if 72057594037927936 - 72057594037927936 / 2 ^ k ≤ i % 64 * 1125899906842624 then 1 else 0) := by
  unfold kp
  match k, hk with
  | 0, _ => simp only [Nat.sub_zero, Nat.reducePow, Nat.reduceSub, Nat.reduceDiv]; split <;> omega
  | 1, _ => simp only [Nat.reducePow, Nat.reduceSub, Nat.reduceDiv]; split <;> omega
  | 2, _ => simp only [Nat.reducePow, Nat.reduceSub, Nat.reduceDiv]; split <;> omega
  | 3, _ => simp only [Nat.reducePow, Nat.reduceSub, Nat.reduceDiv]; split <;> omega
  | 4, _ => simp only [Nat.reducePow, Nat.reduceSub, Nat.reduceDiv]; split <;> omega
  | 5, _ => simp only [Nat.reducePow, Nat.reduceSub, Nat.reduceDiv]; split <;> omega
  | 6, _ => simp only [Nat.reducePow, Nat.reduceSub, Nat.reduceDiv]; split <;> omega
theorem kp_le (k i : Nat) (hk : k ≤ 6) : kp k i ≤ i := by
  unfold kp
  match k, hk with
  | 0, _ => simp only [Nat.sub_zero, Nat.reducePow, Nat.reduceSub]; omega
  | 1, _ => simp only [Nat.reducePow, Nat.reduceSub]; omega
  | 2, _ => simp only [Nat.reducePow, Nat.reduceSub]; omega
  | 3, _ => simp only [Nat.reducePow, Nat.reduceSub]; omega
  | 4, _ => simp only [Nat.reducePow, Nat.reduceSub]; omega
  | 5, _ => simp only [Nat.reducePow, Nat.reduceSub]; omega
  | 6, _ => simp only [Nat.reducePow, Nat.reduceSub]; omega
theorem kp_all {k : Nat} (hk : k ≤ 6) (m : Nat) : (kp k (64 * m) : Int) = (64 * (m : Int)) / (2 : Int) ^ k := by
  unfold kp
  match k, hk with
  | 0, _ => simp only [Nat.sub_zero, Nat.reducePow, Nat.reduceSub, Int.reducePow]; omega
  | 1, _ => simp only [Nat.reducePow, Nat.reduceSub, Int.reducePow]; omega
  | 2, _ => simp only [Nat.reducePow, Nat.reduceSub, Int.reducePow]; omega
  | 3, _ => simp only [Nat.reducePow, Nat.reduceSub, Int.reducePow]; omega
  | 4, _ => simp only [Nat.reducePow, Nat.reduceSub, Int.reducePow]; omega
  | 5, _ => simp only [Nat.reducePow, Nat.reduceSub, Int.reducePow]; omega
  | 6, _ => simp only [Nat.reducePow, Nat.reduceSub, Int.reducePow]; omega
theorem kept_next {l : List Int} {j k m : Nat} {x : Int} (hk : k ≤ 6) (hx : l[j]? = some x) (e : x = 64 * (m : Int)) : hsum l k (j + 1) = hsum l k j + (kp k (64 * m) : Int) := by
  rw [hsum, kp_all hk, ← e, el_of hx]
theorem hsum_le {l : List Int} (h : Fours l) {k : Nat} : ∀ j, j ≤ l.length → 0 ≤ hsum l k j ∧ hsum l k j ≤ 1216 * (j : Int)
  | 0, _ => by simp [hsum]
  | j + 1, hj => by
    have ih := hsum_le h (k := k) j (by omega)
    have hx := getD_at (l := l) (k := j) (by omega)
    have hc := h.cnt hx
    have h1 : 0 ≤ el l j / (2 : Int) ^ k := Int.ediv_nonneg hc.1 (Int.le_of_lt (Int.pow_pos (by decide)))
    have h2 : el l j / (2 : Int) ^ k ≤ el l j := Int.ediv_le_self _ hc.1
    have h3 : el l j = l.getD j 0 := rfl
    rw [hsum]; omega
/-- The least level of those that will do; the answers. -/
theorem firstOk_is {ok : Nat → Bool} : ∀ m, (firstOk ok m = -1 ∧ ∀ j, j < m → ok j = false) ∨ ∃ k : Nat, k < m ∧ firstOk ok m = k ∧ ok k = true ∧ ∀ j, j < k → ok j = false
  | 0 => .inl ⟨rfl, by omega⟩
  | m + 1 => by
    rcases firstOk_is (ok := ok) m with ⟨_, h⟩ | ⟨k, hk, _, h2, h3⟩
    · cases e : ok m
      · refine .inl ⟨firstOk_none (m + 1) fun j hj => ?_, fun j hj => ?_⟩
        all_goals
          by_cases ej : j = m
          · subst ej; exact e
          · exact h j (by omega)
      · exact .inr ⟨m, by omega, firstOk_at h e (m + 1) (by omega), e, h⟩
    · exact .inr ⟨k, by omega, firstOk_at h3 h2 (m + 1) (by omega), h2, h3⟩
/-- What the shares come to, with what is left of the room. -/
theorem wsum_set {l : List Int} {i : Nat} {v : Int} (h : l[i]? = some 0) : ∀ n, wsum (l.set i v) n = wsum l n + (if i < n then v else 0)
  | 0 => by simp [wsum]
  | n + 1 => by
    rw [wsum, wsum, wsum_set h n]
    by_cases e : i = n
    · subst e
      have hl := (List.getElem?_eq_some_iff.1 h).1
      rw [getD_of h, getD_of (List.getElem?_set_self hl), if_neg (by omega), if_pos (by omega)] <;> omega
    · rw [show (l.set i v).getD n 0 = l.getD n 0 by simp [List.getD, List.getElem?_set_ne e]]
      by_cases e2 : i < n
      · rw [if_pos e2, if_pos (by omega)]; omega
      · rw [if_neg e2, if_neg (by omega)]; omega
theorem fOut_far {l o : List Int} {n : Nat} {room : Int} (ho : Pm n o) {s : Nat} (hs : s < n) : ∀ t, t ≤ s → (fOut l o n room t)[(el o s).toNat]? = some 0
  | 0, _ => by
    obtain ⟨v, hv, e⟩ := ho.rng s hs
    rw [fOut, e]
    simp [hv]
  | t + 1, ht => by
    obtain ⟨v, hv, e⟩ := ho.rng s hs
    obtain ⟨u, hu, e2⟩ := ho.rng t (by omega)
    have hne : (el o t).toNat ≠ (el o s).toNat := by
      intro h
      have := ho.inj t s (by omega) hs (by rw [e, e2] at h ⊢; have h' : u = v := (by simpa using h); rw [h'])
      omega
    rw [fOut, List.getElem?_set_ne hne]
    exact fOut_far ho hs t (by omega)
theorem wsum_zeros (n : Nat) : ∀ m, wsum (List.replicate n 0) m = 0
  | 0 => rfl
  | m + 1 => by
    rw [wsum, wsum_zeros n m]
    simp only [List.getD, List.getElem?_replicate]
    split <;> rfl
theorem fair_sum {l o : List Int} {n : Nat} {room : Int} (ho : Pm n o) : ∀ t, t ≤ n → wsum (fOut l o n room t) n + fRoom l o n room t = room
  | 0, _ => by rw [fOut, fRoom, wsum_zeros]; omega
  | t + 1, ht => by
    have ih := fair_sum (l := l) (room := room) ho t (by omega)
    obtain ⟨v, hv, e⟩ := ho.rng t (by omega)
    rw [fOut, wsum_set (fOut_far ho (by omega) t (Nat.le_refl t)), if_pos (by rw [e]; simpa using hv), fRoom]
    unfold fVal
    omega
theorem fair_all {l o : List Int} {n : Nat} {room : Int} (hw : Wts n l) (ho : Pm n o) (r0 : 0 ≤ room) : wsum (fOut l o n room n) n ≤ room := by
  have h1 := fair_sum (l := l) (room := room) ho n (Nat.le_refl _)
  have h2 := fRoom_bd hw ho r0 n (Nat.le_refl _)
  omega
theorem fVal_bd {l o : List Int} {n : Nat} {room : Int} (hw : Wts n l) (ho : Pm n o) (r0 : 0 ≤ room) {t : Nat} (ht : t < n) : 0 ≤ fVal l o n room t ∧ fVal l o n room t ≤ room := by
  have h1 := fRoom_bd hw ho r0 t (by omega)
  have h2 := fRoom_bd hw ho r0 (t + 1) (by omega)
  obtain ⟨v, hv, e⟩ := ho.rng t ht
  have h3 := hw.cnt v hv
  have hs : 0 ≤ fVal l o n room t := by
    unfold fVal fStep
    rw [e, kap_nat]
    have hd : 0 ≤ fRoom l o n room t / ((n : Int) - t) := Int.ediv_nonneg h1.1 (by omega)
    split <;> omega
  rw [fRoom] at h2
  unfold fVal at hs ⊢
  omega
theorem fOut_bd {l o : List Int} {n : Nat} {room : Int} (hw : Wts n l) (ho : Pm n o) (r0 : 0 ≤ room) : ∀ t, t ≤ n → ∀ x ∈ fOut l o n room t, 0 ≤ x ∧ x ≤ room
  | 0, _ => by
    intro x hx
    rw [fOut] at hx
    rw [List.eq_of_mem_replicate hx]
    omega
  | t + 1, ht => by
    intro x hx
    rw [fOut] at hx
    rcases List.mem_or_eq_of_mem_set hx with hx | rfl
    · exact fOut_bd hw ho r0 t (by omega) x hx
    · exact fVal_bd hw ho r0 (by omega)
end Go.Proofs.Ytkliebhpdcjdgaa
