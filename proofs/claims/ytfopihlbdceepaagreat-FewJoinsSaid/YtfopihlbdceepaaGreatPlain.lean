/-
  Plain lemmas on lists and numbers that several proofs of this seat share. No program is named here.
-/
import Derived.Test.YtfopihlbdceepaaGreatMem
namespace Go.Proofs.YtfopihlbdceepaaGreat

/-- Does p hold of every number below m? -/
def okTo (p : Nat → Bool) : Nat → Bool
  | 0 => true
  | k + 1 => okTo p k && p k
theorem okTo_bad {p : Nat → Bool} {k : Nat} (h : p k = false) : ∀ m, k < m → okTo p m = false
  | 0, hk => by omega
  | m + 1, hk => by
    by_cases e : k = m
    · subst e; simp [okTo, h]
    · simp [okTo, okTo_bad h m (by omega)]
theorem okTo_next {p : Nat → Bool} {k : Nat} (h : okTo p k = true) (hk : p k = true) : okTo p (k + 1) = true := by simp [okTo, h, hk]
theorem okTo_at {p : Nat → Bool} {k : Nat} : ∀ m, okTo p m = true → k < m → p k = true
  | 0, _, hk => by omega
  | m + 1, h, hk => by
    simp only [okTo, Bool.and_eq_true] at h
    by_cases e : k = m
    · subst e; exact h.2
    · exact okTo_at m h.1 (by omega)
theorem okTo_of {p : Nat → Bool} : ∀ m, (∀ k, k < m → p k = true) → okTo p m = true
  | 0, _ => rfl
  | m + 1, h => by simp [okTo, okTo_of m (fun k hk => h k (by omega)), h m (by omega)]
theorem okTo_no {p : Nat → Bool} : ∀ m, okTo p m = false → ∃ k, k < m ∧ p k = false
  | 0, h => by cases h
  | m + 1, h => by
    simp only [okTo, Bool.and_eq_false_iff] at h
    rcases h with h | h
    · obtain ⟨k, hk, hp⟩ := okTo_no m h
      exact ⟨k, by omega, hp⟩
    · exact ⟨m, by omega, h⟩
theorem getD_of {α : Type} {l : List α} {k : Nat} {x d : α} (h : l[k]? = some x) : l.getD k d = x := by simp [List.getD, h]
theorem getD_at {l : List Int} {k : Nat} (h : k < l.length) : l[k]? = some (l.getD k 0) := by simp [List.getD, h]

theorem set_same {α : Type} {l : List α} {k : Nat} {x : α} (h : l[k]? = some x) : l.set k x = l := by
  apply List.ext_getElem?
  intro j
  by_cases e : k = j
  · subst e
    rw [List.getElem?_set_self (List.getElem?_eq_some_iff.1 h).1, h]
  · rw [List.getElem?_set_ne e]
/-- Two places of a row raised. -/
def inc (s : List Int) (i r : Nat) (o d : Int) : List Int := s.mapIdx fun j v => v + (if j = i then o else 0) + (if j = r then d else 0)
theorem inc_len (s : List Int) (i r : Nat) (o d : Int) : (inc s i r o d).length = s.length := by simp [inc]
/-- The same, where only the places below m have been raised. -/
def incTo (s : List Int) (i r : Nat) (o d : Int) (m : Nat) : List Int := s.mapIdx fun j v => if j < m then v + (if j = i then o else 0) + (if j = r then d else 0) else v
theorem incTo_len (s : List Int) (i r : Nat) (o d : Int) (m : Nat) : (incTo s i r o d m).length = s.length := by simp [incTo]
theorem incTo_zero (s : List Int) (i r : Nat) (o d : Int) : incTo s i r o d 0 = s := by
  apply List.ext_getElem?
  intro j
  simp [incTo]
theorem incTo_all (s : List Int) (i r : Nat) (o d : Int) : incTo s i r o d s.length = inc s i r o d := by
  apply List.ext_getElem?
  intro j
  by_cases h : j < s.length
  · simp [incTo, inc, h]
  · simp [incTo, inc, List.getElem?_eq_none (Nat.le_of_not_lt h)]
theorem incTo_at {s : List Int} {i r : Nat} {o d : Int} {m : Nat} {v : Int} (h : s[m]? = some v) : (incTo s i r o d m)[m]? = some v := by simp [incTo, h]
theorem incTo_next {s : List Int} {i r : Nat} {o d : Int} {m : Nat} {v : Int} (h : s[m]? = some v) :
    incTo s i r o d (m + 1) = (incTo s i r o d m).set m (v + (if m = i then o else 0) + (if m = r then d else 0)) := by
  have hm := (List.getElem?_eq_some_iff.1 h).1
  apply List.ext_getElem?
  intro j
  by_cases e : m = j
  · subst e
    rw [List.getElem?_set_self (by simpa [incTo] using hm)]
    simp [incTo, h]
  · rw [List.getElem?_set_ne e]
    by_cases hj : j < m
    · simp [incTo, hj, Nat.lt_succ_of_lt hj]
    · simp [incTo, hj, show ¬ j < m + 1 by omega]
theorem inc_sets {s : List Int} {i r : Nat} {o d x y : Int} (hx : s[i]? = some x) (hr : r < s.length) (hy : (s.set i (x + o))[r]? = some y) : inc s i r o d = (s.set i (x + o)).set r (y + d) := by
  have hi := (List.getElem?_eq_some_iff.1 hx).1
  apply List.ext_getElem?
  intro j
  by_cases e : r = j
  · subst e
    rw [List.getElem?_set_self (by simpa using hr)]
    by_cases e2 : i = r
    · subst e2
      rw [List.getElem?_set_self hi] at hy
      injection hy with hy
      subst hy
      simp [inc, hx]
    · rw [List.getElem?_set_ne e2] at hy
      simp [inc, hy, Ne.symm e2]
  · rw [List.getElem?_set_ne e]
    by_cases e2 : i = j
    · subst e2
      rw [List.getElem?_set_self hi]
      simp [inc, hx, Ne.symm e]
    · rw [List.getElem?_set_ne e2]
      simp [inc, Ne.symm e, Ne.symm e2]
/-- Bounds on what is raised. -/
def InB (b : Int) (s : List Int) : Prop := ∀ x ∈ s, 0 ≤ x ∧ x ≤ b
theorem InB.at_ {b : Int} {s : List Int} (h : InB b s) {j : Nat} {x : Int} (hx : s[j]? = some x) : 0 ≤ x ∧ x ≤ b := h x (List.mem_of_getElem? hx)
theorem inc_inB {b o d c : Int} {s : List Int} {i r : Nat} (h : InB b s) (ho : 0 ≤ o) (hd : 0 ≤ d) (hc : o + d ≤ c) : InB (b + c) (inc s i r o d) := by
  intro x hx
  obtain ⟨j, hj⟩ := List.getElem?_of_mem hx
  simp only [inc, List.getElem?_mapIdx, Option.map_eq_some_iff] at hj
  obtain ⟨v, hv, rfl⟩ := hj
  have h1 := h.at_ hv
  split <;> split <;> omega
end Go.Proofs.YtfopihlbdceepaaGreat
