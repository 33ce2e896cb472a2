/-
  copy over elements of k cells; three ways of saying where a list is cut. No condition; no program is named here.
-/
import Derived.Test.YtfopihlbdceepaaGreatInsP
import Derived.Test.YtfopihlbdceepaaGreatKept
import Derived.Test.YtfopihlbdceepaaGreatOpen2
import Derived.Laws.IdiomCopy
namespace Go.Proofs.YtfopihlbdceepaaGreat
open Go.RowKit

theorem run_copy_cellsK {P : Program} (w : World) (dT sT ty elem : TypeId) (k b o dLen dCap : Nat) (a : Addr) (sLen sCap m : Nat) (cs : List Value)
    (hu : P.underlying dT = some (.slice elem)) (hs : (P.info? elem).map (·.size) = some k) (hm : Nat.min sLen dLen = m) (hn : cs.length = m * k)
    (hsrc : ∀ j v, cs[j]? = some v → w.cell? (a.add j) = some v) (hc : ∀ j, j < cs.length → (w.cell? ⟨b, o + j, none⟩).isSome = true) (hf : ∀ j, j < cs.length → w.frozen? ⟨b, o + j, none⟩ = false) (h1 : ∀ v ∈ cs, v.oneCell' = true) :
    (Builtin.copy_ #[dT, sT] ty #[.slice (some ⟨b, o, none⟩) dLen dCap, .slice (some a) sLen sCap]).run P w = .ok (goInt m) (w.setCells b o cs) := by
  have hl := run_loadCells_list (P := P) w a cs hsrc
  have hst := run_storeCells_cells (P := P) b o cs 0 w (by simpa using hc) (by simpa using hf) h1
  cases hq : P.info? elem with
  | none => simp [hq] at hs
  | some i =>
    have hi : i.size = k := by simpa [hq] using hs
    have hm' : min sLen dLen = m := hm
    rw [hn] at hl
    simp [Builtin.copy_, run_underlying hu, Builtin.lenOf, Builtin.firstCells, sizeOf, typeInfo, hq, hi, hm', hl, hst]
theorem flat_drop {α : Type} {f : α → List Value} {size : Nat} (hf : ∀ a, (f a).length = size) (xs : List α) (k : Nat) : (xs.flatMap f).drop (k * size) = (xs.drop k).flatMap f := by
  have h1 : xs.flatMap f = (xs.take k).flatMap f ++ (xs.drop k).flatMap f := by rw [← List.flatMap_append, List.take_append_drop]
  by_cases hk : k ≤ xs.length
  · rw [h1, List.drop_append_of_le_length (by rw [flat_len hf, List.length_take, Nat.min_eq_left hk]; exact Nat.le_refl _), List.drop_of_length_le (by rw [flat_len hf, List.length_take, Nat.min_eq_left hk]; exact Nat.le_refl _), List.nil_append]
  · rw [List.drop_of_length_le (by rw [flat_len hf]; exact Nat.mul_le_mul_right _ (by omega)), List.drop_of_length_le (by omega)]; rfl
theorem flat_ins {α : Type} {f : α → List Value} {size : Nat} (hf : ∀ a, (f a).length = size) (xs : List α) (x : α) (k : Nat) :
    (xs.take k ++ x :: xs.drop k).flatMap f = (xs.flatMap f).take (k * size) ++ f x ++ (xs.flatMap f).drop (k * size) := by
  rw [flat_drop hf, flat_take hf, List.flatMap_append, List.flatMap_cons, List.append_assoc]
theorem drew_setCells' (b : Nat) : ∀ (vs : List Value) (o : Nat) (w : World), (w.setCells b o vs).drew = w.drew.setCells b o vs
  | [], _, _ => rfl
  | v :: r, o, w => by rw [World.setCells, World.setCells, drew_setCells' b r]; rfl
theorem isSome_setCells' (b : Nat) (vs : List Value) (o : Nat) (w : World) (h : ∀ j, j < vs.length → (w.cell? ⟨b, o + j, none⟩).isSome = true) (k : Nat) (hk : (w.cell? ⟨b, k, none⟩).isSome = true) : ((w.setCells b o vs).cell? ⟨b, k, none⟩).isSome = true := by
  by_cases hin : o ≤ k ∧ k < o + vs.length
  · have := World.cell?_setCells_in b vs o w h (k - o) (by omega)
    rw [show o + (k - o) = k by omega] at this
    rw [this]; rfl
  · rw [World.cell?_setCells_out b vs o w ⟨b, k, none⟩ (fun _ _ => by show k < o ∨ o + vs.length ≤ k; omega)]
    exact hk
/-- What stands in a row behind the two copies of an insert: with room; in a new row. -/
theorem lay_room {cur xs vs : List Value} {a N k : Nat} (hx : cur.take N = xs) (hv : vs.length = k) (ha : a ≤ N) (hN : N + k ≤ cur.length) :
    (layAt (layAt cur (a + k) (xs.drop a)) a vs).take (N + k) = xs.take a ++ vs ++ xs.drop a := by
  have hxl : xs.length = N := by rw [← hx, List.length_take]; omega
  have hdl : (xs.drop a).length = N - a := by rw [List.length_drop, hxl]
  have htl : (xs.take a).length = a := by rw [List.length_take, hxl, Nat.min_eq_left ha]
  have e0 : cur.take a = xs.take a := by rw [← hx, List.take_take, Nat.min_eq_left ha]
  rw [layAt_eq (xs.drop a) cur (a + k) (by rw [hdl]; omega), layAt_eq vs _ a (by simp; omega)]
  have e1 : (cur.take (a + k) ++ xs.drop a ++ cur.drop (a + k + (xs.drop a).length)).take a = xs.take a := by
    rw [List.append_assoc, List.take_append_of_le_length (by rw [List.length_take]; omega), List.take_take, Nat.min_eq_left (by omega), e0]
  have e2 : (cur.take (a + k) ++ xs.drop a ++ cur.drop (a + k + (xs.drop a).length)).drop (a + k) = xs.drop a ++ cur.drop (a + k + (xs.drop a).length) := by
    rw [List.append_assoc, List.drop_append_of_le_length (by rw [List.length_take]; omega), List.drop_of_length_le (by rw [List.length_take]; omega), List.nil_append]
  rw [hv, e1, e2, ← List.append_assoc, List.take_append_of_le_length (by simp only [List.length_append, htl, hv, hdl]; omega), List.take_of_length_le (by simp only [List.length_append, htl, hv, hdl]; omega)]
theorem lay_grow {xs zs ys vs : List Value} {a N k : Nat} (hxl : xs.length = N) (hv : vs.length = k) (ha : a ≤ N) (hz : zs.length = N + k - a) :
    (layAt (layAt (xs.take a ++ zs ++ ys) a vs) (a + k) (xs.drop a)).take (N + k) = xs.take a ++ vs ++ xs.drop a := by
  have hdl : (xs.drop a).length = N - a := by rw [List.length_drop, hxl]
  have htl : (xs.take a).length = a := by rw [List.length_take, hxl, Nat.min_eq_left ha]
  rw [layAt_eq vs _ a (by simp only [List.length_append, htl, hz, hv]; omega)]
  have e1 : (xs.take a ++ zs ++ ys).take a = xs.take a := by rw [List.append_assoc, List.take_append_of_le_length (by omega), List.take_of_length_le (by omega)]
  rw [e1, layAt_eq (xs.drop a) _ (a + k) (by simp only [List.length_append, htl, hz, hv, hdl, List.length_drop]; omega)]
  have e2 : (xs.take a ++ vs ++ (xs.take a ++ zs ++ ys).drop (a + vs.length)).take (a + k) = xs.take a ++ vs := by
    rw [List.take_append_of_le_length (by simp only [List.length_append, htl, hv]; omega), List.take_of_length_le (by simp only [List.length_append, htl, hv]; omega)]
  rw [e2, List.take_append_of_le_length (by simp only [List.length_append, htl, hv, hdl]; omega), List.take_of_length_le (by simp only [List.length_append, htl, hv, hdl]; omega)]
end Go.Proofs.YtfopihlbdceepaaGreat
