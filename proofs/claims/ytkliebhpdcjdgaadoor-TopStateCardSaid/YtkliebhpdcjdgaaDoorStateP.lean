/-
  Pairs of texts, as a plain matter: which may be; their one text; how it is read. No program is named here.
-/
import Derived.Test.YtkliebhpdcjdgaaDoorSplitP
import Derived.Test.YtkliebhpdcjdgaaDoorTableP
import Derived.Test.YtkliebhpdcjdgaaDoorPair
namespace Go.Proofs.YtkliebhpdcjdgaaDoor

abbrev bl (s : ByteArray) : List UInt8 := s.data.toList
def isKc (c : UInt8) : Bool := decide (97 ≤ c.toNat ∧ c.toNat ≤ 122 ∨ 48 ≤ c.toNat ∧ c.toNat ≤ 57)
def isVc (c : UInt8) : Bool := decide (33 ≤ c.toNat ∧ c.toNat ≤ 126 ∧ c.toNat ≠ 44 ∧ c.toNat ≠ 61 ∧ c.toNat ≠ 59)
/-- Are the first k bytes such? -/
def kcTo (l : List UInt8) (k : Nat) : Bool := okTo (fun i => isKc (l.getD i 0)) k
def vcTo (l : List UInt8) (k : Nat) : Bool := okTo (fun i => isVc (l.getD i 0)) k
def keyOk (l : List UInt8) : Bool := decide (1 ≤ l.length ∧ l.length ≤ 16) && kcTo l l.length
def valOk (l : List UInt8) : Bool := decide (l.length ≠ 0) && vcTo l l.length
/-- Is the key of pair i among those ahead of it? -/
def dupAt (ps : List Pr) (i : Nat) : Bool := (ps.take i).any fun p => decide (p.1 = (ps.getD i (ByteArray.empty, ByteArray.empty)).1)
def prStep (ps : List Pr) (i : Nat) : Int :=
  let p := ps.getD i (ByteArray.empty, ByteArray.empty)
  if keyOk (bl p.1) = true ∧ valOk (bl p.2) = true then (if dupAt ps i = true then 5 else 0) else 3
def prErr (n : Nat) (ps : List Pr) : Int := if 40 < n then 2 else faultTo (prStep ps) n
theorem prStep_form {ps : List Pr} {i : Nat} {p : Pr} (h : ps[i]? = some p) (hk : ¬ (keyOk (bl p.1) = true ∧ valOk (bl p.2) = true)) : prStep ps i = 3 := by
  unfold prStep; simp only [getD_of h]; rw [if_neg hk]
theorem prStep_there {ps : List Pr} {i : Nat} {p : Pr} (h : ps[i]? = some p) (hk : keyOk (bl p.1) = true) (hv : valOk (bl p.2) = true) (hd : dupAt ps i = true) : prStep ps i = 5 := by
  unfold prStep; simp only [getD_of h]; rw [if_pos ⟨hk, hv⟩, if_pos hd]
theorem prStep_ok {ps : List Pr} {i : Nat} {p : Pr} (h : ps[i]? = some p) (hk : keyOk (bl p.1) = true) (hv : valOk (bl p.2) = true) (hd : dupAt ps i = false) : prStep ps i = 0 := by
  unfold prStep; simp only [getD_of h]; rw [if_pos ⟨hk, hv⟩, if_neg (by rw [hd]; simp)]
/-- The pairs that may be. -/
theorem prErr_ok {n : Nat} {ps : List Pr} (hl : ps.length = n) (h : prErr n ps = 0) : n ≤ 40 ∧ ∀ p ∈ ps, keyOk (bl p.1) = true ∧ valOk (bl p.2) = true := by
  unfold prErr at h
  by_cases h1 : 40 < n
  · rw [if_pos h1] at h; omega
  · rw [if_neg h1] at h
    refine ⟨by omega, fun p hp => ?_⟩
    obtain ⟨i, hi⟩ := List.getElem?_of_mem hp
    have h2 := faultTo_all n h i (by rw [← hl]; exact (List.getElem?_eq_some_iff.1 hi).1)
    by_cases hk : keyOk (bl p.1) = true ∧ valOk (bl p.2) = true
    · exact hk
    · rw [prStep_form hi hk] at h2; omega
theorem keyOk_len {l : List UInt8} (h : keyOk l = true) : 1 ≤ l.length ∧ l.length ≤ 16 := by
  simp only [keyOk, Bool.and_eq_true] at h
  exact of_decide_eq_true h.1
/-- One pair's text; the text of the first k. -/
def prText (p : Pr) : List UInt8 := bl p.1 ++ 61 :: bl p.2
def txTo (ps : List Pr) : Nat → List UInt8
  | 0 => []
  | k + 1 => txTo ps k ++ (if k = 0 then [] else [44]) ++ prText (ps.getD k (ByteArray.empty, ByteArray.empty))
/-- What is read of a text's pieces: all of them, if each holds the sign; of those that are whole, and of the last one. -/
def rdPair (l : List UInt8) : Pr := (⟨(cutB 61 l).toArray⟩, ⟨(cutA 61 l).toArray⟩)
def rdAll (s : List UInt8) : List Pr := (pieces 44 s).map rdPair
def rdOk (s : List UInt8) : Bool := (pieces 44 s).all (cutOk 61)
def rdErr (s : List UInt8) : Int := if 200 < s.length then 2 else if s.length = 0 then 0 else if rdOk s = true then prErr (rdAll s).length (rdAll s) else 3
def rdRes (s : List UInt8) : List Pr := if rdErr s = 0 then (if s.length = 0 then [] else rdAll s) else []
/-- The pieces of a beginning: those that are whole, and the last one. -/
def whole (s : List UInt8) : List (List UInt8) := (pieces 44 s).dropLast
def last (s : List UInt8) : List UInt8 := (pieces 44 s).getLastD []
theorem pieces_snoc (c : UInt8) : ∀ (l : List UInt8) (b : UInt8), pieces c (l ++ [b]) = if b = c then pieces c l ++ [[]] else (pieces c l).dropLast ++ [(pieces c l).getLastD [] ++ [b]]
  | [], b => by
    by_cases e : b = c
    · simp [pieces, e]
    · simp [pieces, e]
  | a :: l, b => by
    have ih := pieces_snoc c l b
    have hne := pieces_ne c l
    obtain ⟨p, r, hp⟩ : ∃ p r, pieces c l = p :: r := by
      cases h : pieces c l with
      | nil => exact absurd h hne
      | cons p r => exact ⟨p, r, rfl⟩
    rw [List.cons_append, pieces, pieces]
    by_cases ea : a = c
    · rw [if_pos ea, if_pos ea, ih]
      by_cases e : b = c
      · rw [if_pos e, if_pos e]; rfl
      · rw [if_neg e, if_neg e, hp]
        simp [List.dropLast]
    · rw [if_neg ea, if_neg ea, ih]
      by_cases e : b = c
      · rw [if_pos e, if_pos e, hp]; simp
      · rw [if_neg e, if_neg e, hp]
        cases r with
        | nil => simp
        | cons q r => simp [List.dropLast]
theorem pieces_last (s : List UInt8) : pieces 44 s = whole s ++ [last s] := by
  unfold whole last
  have h := pieces_ne 44 s
  rw [List.getLastD_eq_getLast?, List.getLast?_eq_some_getLast h, Option.getD_some, List.dropLast_concat_getLast h]
theorem whole_comma (s : List UInt8) : whole (s ++ [44]) = whole s ++ [last s] ∧ last (s ++ [44]) = [] := by
  have := pieces_snoc 44 s 44
  rw [if_pos rfl] at this
  unfold whole last
  rw [this, List.dropLast_concat, List.getLastD_concat]
  exact ⟨pieces_last s, rfl⟩
theorem whole_other {b : UInt8} (s : List UInt8) (h : b ≠ 44) : whole (s ++ [b]) = whole s ∧ last (s ++ [b]) = last s ++ [b] := by
  have := pieces_snoc 44 s b
  rw [if_neg h] at this
  unfold whole last
  rw [this, List.dropLast_concat, List.getLastD_concat]
  exact ⟨rfl, rfl⟩
theorem cut_snoc (c b : UInt8) : ∀ l, (cutB c (l ++ [b]) = if cutOk c l = true then cutB c l else if b = c then cutB c l else cutB c l ++ [b]) ∧
    (cutA c (l ++ [b]) = if cutOk c l = true then cutA c l ++ [b] else []) ∧ (cutOk c (l ++ [b]) = (cutOk c l || (b == c)))
  | [] => by
    by_cases e : b = c
    · simp [cutB, cutA, cutOk, e]
    · simp [cutB, cutA, cutOk, e, Ne.symm e]
  | a :: l => by
    obtain ⟨h1, h2, h3⟩ := cut_snoc c b l
    by_cases ea : a = c
    · subst ea
      simp [cutB, cutA, cutOk]
    · have hok : cutOk c (a :: l) = cutOk c l := by
        unfold cutOk
        rw [List.contains_cons, show (c == a) = false by simpa using Ne.symm ea]; rfl
      have hok2 : cutOk c (a :: l ++ [b]) = cutOk c (l ++ [b]) := by
        unfold cutOk
        rw [List.cons_append, List.contains_cons, show (c == a) = false by simpa using Ne.symm ea]; rfl
      rw [List.cons_append, cutB, cutA, cutB, cutA, if_neg ea, if_neg ea, if_neg ea, if_neg ea, ← List.cons_append, hok2, hok, h1, h2, h3]
      refine ⟨?_, rfl, rfl⟩
      split
      · rfl
      · split <;> rfl
theorem cutA_not {c : UInt8} : ∀ {l : List UInt8}, cutOk c l = false → cutA c l = []
  | [], _ => rfl
  | a :: l, h => by
    unfold cutOk at h
    rw [List.contains_cons, Bool.or_eq_false_iff] at h
    have : ¬ a = c := fun e => by subst e; simp at h
    rw [cutA, if_neg this]
    exact cutA_not h.2
end Go.Proofs.YtkliebhpdcjdgaaDoor
