/-
  Plain words for tables of counts: what is wrong with one; each count with another one. No program is named here.
-/
import Derived.Test.YtfopihlbdceepaaGreatPlain
namespace Go.Proofs.YtfopihlbdceepaaGreat

/-- The first fault. -/
def faultTo (f : Nat → Int) : Nat → Int
  | 0 => 0
  | k + 1 => if faultTo f k = 0 then f k else faultTo f k
theorem faultTo_bad {f : Nat → Int} {k : Nat} {E : Int} (h : faultTo f k = 0) (hs : f k = E) (hE : E ≠ 0) : ∀ m, k < m → faultTo f m = E
  | 0, hm => by omega
  | m + 1, hm => by
    by_cases e : k = m
    · subst e; rw [faultTo, if_pos h, hs]
    · have ih := faultTo_bad h hs hE m (by omega)
      rw [faultTo, ih, if_neg hE]
theorem faultTo_next {f : Nat → Int} {k : Nat} (h : faultTo f k = 0) (hs : f k = 0) : faultTo f (k + 1) = 0 := by rw [faultTo, if_pos h, hs]
theorem faultTo_all {f : Nat → Int} : ∀ m, faultTo f m = 0 → ∀ k, k < m → f k = 0
  | 0, _, k, hk => by omega
  | m + 1, h, k, hk => by
    rw [faultTo] at h
    by_cases e : faultTo f m = 0
    · rw [if_pos e] at h
      by_cases ek : k = m
      · subst ek; exact h
      · exact faultTo_all m e k (by omega)
    · rw [if_neg e] at h; exact absurd h e
/-- May it be a count? -/
def isCnt (x : Int) : Bool := decide (0 ≤ x ∧ x ≤ 1000000000000)
theorem isCnt_yes {x : Int} (h : 0 ≤ x ∧ x ≤ 1000000000000) : isCnt x = true := decide_eq_true h
theorem isCnt_no {x : Int} (h : ¬ (0 ≤ x ∧ x ≤ 1000000000000)) : isCnt x = false := decide_eq_false h
theorem isCnt_of {x : Int} (h : isCnt x = true) : 0 ≤ x ∧ x ≤ 1000000000000 := of_decide_eq_true h
/-- Are the first k counts? -/
def cntsTo (zs : List Int) (k : Nat) : Bool := okTo (fun j => isCnt (zs.getD j 0)) k
def rowErr (W : Int) (zs : List Int) : Int := if (zs.length : Int) = W then (if cntsTo zs zs.length = true then 0 else 1) else 7
def tabBad (W : Int) (n : Nat) : Prop := W < 1 ∨ 32 < W ∨ n < 1 ∨ 4 < n
instance (W : Int) (n : Nat) : Decidable (tabBad W n) := by unfold tabBad; infer_instance
def tabErr (W : Int) (n : Nat) (zss : List (List Int)) : Int := if tabBad W n then 1 else faultTo (fun i => rowErr W (zss.getD i [])) n
/-- A table that may be. -/
structure TabOk (W : Int) (n : Nat) (zss : List (List Int)) : Prop where
  w1 : 1 ≤ W
  w2 : W ≤ 32
  n1 : 1 ≤ n
  n2 : n ≤ 4
  row : ∀ (i : Nat) (zs : List Int), zss[i]? = some zs → (zs.length : Int) = W
  cnt : ∀ (i : Nat) (zs : List Int) (k : Nat) (x : Int), zss[i]? = some zs → zs[k]? = some x → 0 ≤ x ∧ x ≤ 1000000000000
theorem tabOk_of {W : Int} {n : Nat} {zss : List (List Int)} (hl : zss.length = n) (h : tabErr W n zss = 0) : TabOk W n zss := by
  unfold tabErr at h
  by_cases h1 : tabBad W n
  · rw [if_pos h1] at h; omega
  · rw [if_neg h1] at h
    have h2 := faultTo_all _ h
    have hr : ∀ (i : Nat) (zs : List Int), zss[i]? = some zs → rowErr W zs = 0 := by
      intro i zs hi
      have := h2 i (by rw [← hl]; exact (List.getElem?_eq_some_iff.1 hi).1)
      rwa [getD_of hi] at this
    have key : ∀ (i : Nat) (zs : List Int), zss[i]? = some zs → (zs.length : Int) = W ∧ cntsTo zs zs.length = true := by
      intro i zs hi
      have h3 := hr i zs hi
      unfold rowErr at h3
      by_cases a : (zs.length : Int) = W
      · rw [if_pos a] at h3
        by_cases b : cntsTo zs zs.length = true
        · exact ⟨a, b⟩
        · rw [if_neg b] at h3; omega
      · rw [if_neg a] at h3; omega
    unfold tabBad at h1
    refine ⟨by omega, by omega, by omega, by omega, fun i zs hi => (key i zs hi).1, fun i zs k x hi hx => ?_⟩
    have h4 := okTo_at _ (key i zs hi).2 (List.getElem?_eq_some_iff.1 hx).1
    rw [getD_of hx] at h4
    exact isCnt_of h4
/-- Each count with another one. -/
def addT (f : Nat → Nat → Int) (zss : List (List Int)) : List (List Int) := zss.mapIdx fun i zs => zs.mapIdx fun k x => x + f i k
def okCell (f : Nat → Nat → Int) (zss : List (List Int)) (i k : Nat) : Bool := decide ((zss.getD i []).getD k 0 + f i k ≤ 1000000000000)
def okRow (f : Nat → Nat → Int) (zss : List (List Int)) (m : Nat) (i : Nat) : Bool := okTo (okCell f zss i) m
/-- Does all of it stay a count? m: how wide it is; n: of how many rows. -/
def okTab (f : Nat → Nat → Int) (zss : List (List Int)) (m n : Nat) : Bool := okTo (okRow f zss m) n
/-- What is left of it. -/
def sumT (b : Bool) (f : Nat → Nat → Int) (zss : List (List Int)) : List (List Int) := bif b then addT f zss else []
def sumW (b : Bool) (W : Int) : Int := bif b then W else 0
def sumE (b : Bool) : Int := bif b then 0 else 2
/-- The first i rows, and of the next the first k counts. -/
def addTo (f : Nat → Nat → Int) (zss : List (List Int)) (i k : Nat) : List (List Int) := zss.mapIdx fun r zs => zs.mapIdx fun j x => if r < i ∨ (r = i ∧ j < k) then x + f r j else x
theorem addTo_zero (f : Nat → Nat → Int) (zss : List (List Int)) : addTo f zss 0 0 = zss := by
  apply List.ext_getElem?
  intro r
  simp only [addTo, List.getElem?_mapIdx]
  cases h : zss[r]? with
  | none => rfl
  | some zs =>
    simp only [Option.map_some, Option.some.injEq]
    apply List.ext_getElem?
    intro j
    simp [List.getElem?_mapIdx]
theorem addTo_len (f : Nat → Nat → Int) (zss : List (List Int)) (i k : Nat) : (addTo f zss i k).length = zss.length := by simp [addTo]
theorem addTo_at {f : Nat → Nat → Int} {zss : List (List Int)} {i k r : Nat} {zs : List Int} (h : zss[r]? = some zs) : (addTo f zss i k)[r]? = some (zs.mapIdx fun j x => if r < i ∨ (r = i ∧ j < k) then x + f r j else x) := by simp [addTo, h]
theorem addTo_row {f : Nat → Nat → Int} {zss : List (List Int)} {i m : Nat} (hw : ∀ zs : List Int, zss[i]? = some zs → zs.length = m) : addTo f zss i m = addTo f zss (i + 1) 0 := by
  apply List.ext_getElem?
  intro r
  simp only [addTo, List.getElem?_mapIdx]
  cases h : zss[r]? with
  | none => rfl
  | some zs =>
    simp only [Option.map_some, Option.some.injEq]
    apply List.ext_getElem?
    intro j
    simp only [List.getElem?_mapIdx]
    cases hx : zs[j]? with
    | none => rfl
    | some x =>
      simp only [Option.map_some, Option.some.injEq]
      have hj := (List.getElem?_eq_some_iff.1 hx).1
      by_cases e : r = i
      · subst e
        have := hw zs h
        rw [if_pos (by omega), if_pos (by omega)]
      · by_cases h2 : r < i
        · rw [if_pos (by omega), if_pos (by omega)]
        · rw [if_neg (by omega), if_neg (by omega)]
theorem addTo_all {f : Nat → Nat → Int} {zss : List (List Int)} {n : Nat} (hl : zss.length = n) : addTo f zss n 0 = addT f zss := by
  apply List.ext_getElem?
  intro r
  simp only [addTo, addT, List.getElem?_mapIdx]
  cases h : zss[r]? with
  | none => rfl
  | some zs =>
    have := (List.getElem?_eq_some_iff.1 h).1
    simp only [Option.map_some, Option.some.injEq]
    apply List.ext_getElem?
    intro j
    simp only [List.getElem?_mapIdx]
    cases zs[j]? with
    | none => rfl
    | some x => simp only [Option.map_some, Option.some.injEq]; rw [if_pos (by omega)]
theorem addTo_next {f : Nat → Nat → Int} {zss : List (List Int)} {i k : Nat} {zs : List Int} {x : Int} (h : zss[i]? = some zs) (hx : zs[k]? = some x) {ys : List Int} (hy : (addTo f zss i k)[i]? = some ys) :
    (addTo f zss i k).set i (ys.set k (x + f i k)) = addTo f zss (i) (k + 1) := by
  have hy2 := addTo_at (f := f) (i := i) (k := k) h
  rw [hy] at hy2
  injection hy2 with hy2
  subst hy2
  have hi := (List.getElem?_eq_some_iff.1 h).1
  have hk := (List.getElem?_eq_some_iff.1 hx).1
  apply List.ext_getElem?
  intro r
  by_cases e : i = r
  · subst e
    rw [List.getElem?_set_self (by rw [addTo_len]; exact hi), addTo_at h]
    congr 1
    apply List.ext_getElem?
    intro j
    by_cases ej : k = j
    · subst ej
      rw [List.getElem?_set_self (by simpa using hk)]
      simp [List.getElem?_mapIdx, hx]
    · rw [List.getElem?_set_ne ej]
      simp only [List.getElem?_mapIdx]
      cases zs[j]? with
      | none => rfl
      | some y =>
        simp only [Option.map_some, Option.some.injEq]
        by_cases h2 : j < k
        · rw [if_pos (Or.inr ⟨trivial, h2⟩), if_pos (Or.inr ⟨trivial, by omega⟩)]
        · rw [if_neg (by simp; omega), if_neg (by simp; omega)]
  · rw [List.getElem?_set_ne e]
    simp only [addTo, List.getElem?_mapIdx]
    cases zss[r]? with
    | none => rfl
    | some ws =>
      simp only [Option.map_some, Option.some.injEq]
      apply List.ext_getElem?
      intro j
      simp only [List.getElem?_mapIdx]
      cases ws[j]? with
      | none => rfl
      | some y =>
        simp only [Option.map_some, Option.some.injEq]
        by_cases h2 : r < i
        · rw [if_pos (by omega), if_pos (by omega)]
        · rw [if_neg (by omega), if_neg (by omega)]
theorem addTo_here {f : Nat → Nat → Int} {zss : List (List Int)} {i k : Nat} {zs : List Int} {x : Int} (h : zss[i]? = some zs) (hx : zs[k]? = some x) :
    ∃ ys, (addTo f zss i k)[i]? = some ys ∧ ys[k]? = some x ∧ ys.length = zs.length := by
  refine ⟨_, addTo_at h, ?_, by simp⟩
  simp [List.getElem?_mapIdx, hx]
theorem addTo_cur {f : Nat → Nat → Int} {zss : List (List Int)} {i : Nat} {zs : List Int} (h : zss[i]? = some zs) : (addTo f zss i 0)[i]? = some zs := by
  rw [addTo_at h]
  congr 1
  apply List.ext_getElem?
  intro j
  simp only [List.getElem?_mapIdx]
  cases zs[j]? with
  | none => rfl
  | some x => simp only [Option.map_some, Option.some.injEq]; rw [if_neg (by simp)]
/-- One place of each row. -/
def atPlace (p : Nat → Nat) (n : Int) (i k : Nat) : Int := if k = p i then n else 0
theorem okRow_place {p : Nat → Nat} {n : Int} {zss : List (List Int)} {m i : Nat} {zs : List Int} {x : Int} (h : zss[i]? = some zs) (hl : zs.length = m) (hc : ∀ (k : Nat) (x : Int), zs[k]? = some x → x ≤ 1000000000000) (hx : zs[p i]? = some x) :
    okRow (atPlace p n) zss m i = decide (x + n ≤ 1000000000000) := by
  by_cases e : x + n ≤ 1000000000000
  · rw [decide_eq_true e]
    refine okTo_of _ fun k hk => ?_
    unfold okCell atPlace
    rw [getD_of h]
    by_cases ek : k = p i
    · subst ek; rw [getD_of hx, if_pos rfl]; exact decide_eq_true e
    · rw [if_neg ek, Int.add_zero]
      obtain ⟨y, hy⟩ : ∃ y, zs[k]? = some y := ⟨_, List.getElem?_eq_getElem (by omega)⟩
      rw [getD_of hy]; exact decide_eq_true (hc k y hy)
  · rw [decide_eq_false e]
    refine okTo_bad (k := p i) ?_ _ (by rw [← hl]; exact (List.getElem?_eq_some_iff.1 hx).1)
    unfold okCell atPlace
    rw [getD_of h, getD_of hx, if_pos rfl]
    exact decide_eq_false e
theorem addTo_place {p : Nat → Nat} {n : Int} {zss : List (List Int)} {i : Nat} {zs : List Int} {x : Int} (h : zss[i]? = some zs) (hx : zs[p i]? = some x) {ys : List Int} (hy : (addTo (atPlace p n) zss i 0)[i]? = some ys) :
    (addTo (atPlace p n) zss i 0).set i (ys.set (p i) (x + n)) = addTo (atPlace p n) zss (i + 1) 0 := by
  have hy2 := addTo_at (f := atPlace p n) (i := i) (k := 0) h
  rw [hy] at hy2
  injection hy2 with hy2
  subst hy2
  have hi := (List.getElem?_eq_some_iff.1 h).1
  have hk := (List.getElem?_eq_some_iff.1 hx).1
  apply List.ext_getElem?
  intro r
  by_cases e : i = r
  · subst e
    rw [List.getElem?_set_self (by rw [addTo_len]; exact hi), addTo_at h]
    congr 1
    apply List.ext_getElem?
    intro j
    by_cases ej : p i = j
    · rw [ej, List.getElem?_set_self (by simpa [← ej] using hk)]
      rw [ej] at hx
      simp [List.getElem?_mapIdx, hx, atPlace, ej]
    · rw [List.getElem?_set_ne ej]
      simp only [List.getElem?_mapIdx]
      cases zs[j]? with
      | none => rfl
      | some y =>
        simp only [Option.map_some, Option.some.injEq]
        rw [if_neg (by omega), if_pos (by omega)]
        unfold atPlace
        rw [if_neg (Ne.symm ej), Int.add_zero]
  · rw [List.getElem?_set_ne e]
    simp only [addTo, List.getElem?_mapIdx]
    cases zss[r]? with
    | none => rfl
    | some ws =>
      simp only [Option.map_some, Option.some.injEq]
      apply List.ext_getElem?
      intro j
      simp only [List.getElem?_mapIdx]
      cases ws[j]? with
      | none => rfl
      | some y =>
        simp only [Option.map_some, Option.some.injEq]
        by_cases h2 : r < i
        · rw [if_pos (by omega), if_pos (by omega)]
        · rw [if_neg (by omega), if_neg (by omega)]
/-- The least of one place of each row. -/
def leastTo (p : Nat → Nat) (zss : List (List Int)) : Nat → Int
  | 0 => 1000000000000
  | i + 1 => if (zss.getD i []).getD (p i) 0 < leastTo p zss i then (zss.getD i []).getD (p i) 0 else leastTo p zss i
theorem leastTo_next {p : Nat → Nat} {zss : List (List Int)} {i : Nat} {zs : List Int} {x : Int} (h : zss[i]? = some zs) (hx : zs[p i]? = some x) : leastTo p zss (i + 1) = if x < leastTo p zss i then x else leastTo p zss i := by
  rw [leastTo, getD_of h, getD_of hx]
end Go.Proofs.YtfopihlbdceepaaGreat
