/-
  Striking out of a row in place, as a plain matter of lists; cells laid flat and set. No condition; no program is named here.
-/
import Derived.Test.YtfopihlbdceepaaGreatOpen2
namespace Go.Proofs.YtfopihlbdceepaaGreat

/-- The places below i hold what is kept of the first j; from j on nothing has turned. -/
structure KeptOk {α : Type} (p : α → Bool) (xs ys : List α) (i j : Nat) : Prop where
  len : ys.length = xs.length
  le : i ≤ j
  low : ys.take i = (xs.take j).filter fun x => !p x
  high : ys.drop j = xs.drop j
section
variable {α : Type} {p : α → Bool} {xs ys : List α} {i j : Nat} {v : α}
theorem take_none {k : Nat} (h : ∀ (m : Nat) (x : α), m < k → xs[m]? = some x → p x = false) : (xs.take k).filter (fun x => !p x) = xs.take k := by
  rw [List.filter_eq_self]
  intro a ha
  obtain ⟨m, hm⟩ := List.getElem?_of_mem ha
  rw [List.getElem?_take] at hm
  split at hm
  · rename_i hk
    rw [h m a hk hm]; rfl
  · cases hm
theorem take_snoc {k : Nat} (hv : xs[k]? = some v) : xs.take (k + 1) = xs.take k ++ [v] := by rw [List.take_add_one, hv]; rfl
theorem KeptOk.start {k : Nat} (hv : xs[k]? = some v) (hp : p v = true) (h : ∀ (m : Nat) (x : α), m < k → xs[m]? = some x → p x = false) : KeptOk p xs xs k (k + 1) := by
  refine ⟨rfl, by omega, ?_, rfl⟩
  rw [take_snoc hv, List.filter_append, take_none h]
  simp [hp]
theorem KeptOk.at_ (h : KeptOk p xs ys i j) (hv : xs[j]? = some v) : ys[j]? = some v := by
  have := congrArg (fun l => l[0]?) h.high
  simpa [List.getElem?_drop, hv] using this
theorem KeptOk.keep (h : KeptOk p xs ys i j) (hlt : i < j) (hv : xs[j]? = some v) (hp : p v = false) : KeptOk p xs (ys.set i v) (i + 1) (j + 1) := by
  have hj : j < xs.length := (List.getElem?_eq_some_iff.1 hv).1
  have hl := h.len
  refine ⟨by rw [List.length_set, hl], by omega, ?_, ?_⟩
  · rw [take_snoc hv, List.filter_append, ← h.low, take_snoc (k := i) (v := v) (by rw [List.getElem?_set_self (by omega)]), List.take_set_of_le (Nat.le_refl _)]
    simp [hp]
  · rw [List.drop_set_of_lt (by omega)]
    have := congrArg (List.drop 1) h.high
    simpa [List.drop_drop] using this
theorem KeptOk.skip (h : KeptOk p xs ys i j) (hv : xs[j]? = some v) (hp : p v = true) : KeptOk p xs ys i (j + 1) := by
  refine ⟨h.len, by have := h.le; omega, ?_, ?_⟩
  · rw [take_snoc hv, List.filter_append, ← h.low]
    simp [hp]
  · have := congrArg (List.drop 1) h.high
    simpa [List.drop_drop] using this
theorem KeptOk.done (h : KeptOk p xs ys i xs.length) : ys.take i = xs.filter fun x => !p x := by
  have := h.low
  rwa [List.take_length] at this
theorem KeptOk.count (h : KeptOk p xs ys i j) : i = ((xs.take j).filter fun x => !p x).length ∨ ys.length < i := by
  by_cases hl : i ≤ ys.length
  · left
    rw [← h.low, List.length_take]; omega
  · right; omega
end
theorem filter_none {α : Type} {p : α → Bool} {xs : List α} (h : ∀ (m : Nat) (x : α), xs[m]? = some x → p x = false) : (xs.filter fun x => !p x) = xs := by
  have := take_none (xs := xs) (k := xs.length) (fun m x _ hx => h m x hx)
  rwa [List.take_length] at this
/-- Cells laid flat, two an element: one element set. -/
theorem flat_set2 {α : Type} {f : α → List Value} {a b : α → Value} (hf : ∀ d, f d = [a d, b d]) : ∀ (ds : List α) (k : Nat) (d : α), k < ds.length → ((ds.flatMap f).set (k * 2) (a d)).set (k * 2 + 1) (b d) = (ds.set k d).flatMap f
  | d0 :: ds, 0, d, _ => by simp [hf]
  | d0 :: ds, k + 1, d, h => by
    have h' : k < ds.length := by simpa using h
    rw [List.set_cons_succ, List.flatMap_cons, List.flatMap_cons, ← flat_set2 hf ds k d h', hf d0, show (k + 1) * 2 = k * 2 + 1 + 1 by omega]
    simp [List.set_cons_succ]
theorem flat_take {α : Type} {f : α → List Value} {size : Nat} (hf : ∀ d, (f d).length = size) : ∀ (ds : List α) (k : Nat), (ds.flatMap f).take (k * size) = (ds.take k).flatMap f
  | [], k => by simp
  | d :: ds, 0 => by simp
  | d :: ds, k + 1 => by
    rw [List.flatMap_cons, List.take_succ_cons, List.flatMap_cons, ← flat_take hf ds k, List.take_append, hf, List.take_of_length_le (by rw [hf, Nat.succ_mul]; omega), show (k + 1) * size - size = k * size by rw [Nat.succ_mul]; omega]
end Go.Proofs.YtfopihlbdceepaaGreat
