/-
  Cells laid over a row in a run, further: as lists; blocks whose cells are known. Conditions: those that each lemma names; no program is named here.
-/
import Derived.Test.YtfopihlbdceepaaGreatGen
import Derived.Laws.LoneSync
namespace Go.Proofs.YtfopihlbdceepaaGreat
open Go.RowKit

theorem layAt_eq : ∀ (vs xs : List Value) (o : Nat), o + vs.length ≤ xs.length → layAt xs o vs = xs.take o ++ vs ++ xs.drop (o + vs.length)
  | [], xs, o, _ => by simp [layAt]
  | v :: vs, xs, o, h => by
    have h' : o + 1 + vs.length ≤ (xs.set o v).length := by rw [List.length_set]; simp at h; omega
    have ho : o < xs.length := by simp at h; omega
    rw [layAt, layAt_eq vs _ (o + 1) h', List.drop_set_of_lt (by omega), List.take_add_one, List.take_set_of_le (Nat.le_refl _), List.getElem?_set_self ho]
    simp only [Option.toList_some, List.append_assoc, List.cons_append, List.nil_append, List.length_cons]
    rw [show o + 1 + vs.length = o + (vs.length + 1) by omega]
theorem layAt_len : ∀ (vs xs : List Value) (o : Nat), (layAt xs o vs).length = xs.length
  | [], _, _ => rfl
  | v :: vs, xs, o => by rw [layAt, layAt_len vs, List.length_set]
theorem heap_setCells (g : Nat) (t : TypeId) : ∀ (vs : List Value) (o : Nat) (w : World) (cur : Array Value), w.heap[g]? = some (.cells cur t (0, 0)) → (w.setCells g o vs).heap[g]? = some (.cells (layAt cur.toList o vs).toArray t (0, 0)) ∧ w.grownBy (w.setCells g o vs) (some g)
  | [], o, w, cur, h => ⟨by simpa [World.setCells, layAt] using h, World.grownBy.refl _ _⟩
  | v :: vs, o, w, cur, h => by
    have h1 := heap_setCell_same w g o cur t v h
    obtain ⟨h2, h3⟩ := heap_setCells g t vs (o + 1) _ _ h1
    refine ⟨?_, (grown_set w g o v).trans h3⟩
    rw [Array.toList_setIfInBounds] at h2
    exact h2
/-- A row of the call's own with room: its block. -/
theorem Own.row {w : World} {base n c : Nat} {t : TypeId} {A : Option Addr} {xs : List Value} {size : Nat} (h : Own w base t size A n c xs) (hc : 0 < c) :
    ∃ g cur, A = some ⟨g, 0, none⟩ ∧ base ≤ g ∧ w.heap[g]? = some (.cells cur t (0, 0)) ∧ cur.size = c * size ∧ cur.toList.take (n * size) = xs := by
  rcases h.2 with ⟨hv, _⟩ | ⟨g, cap, cur, hv, hb, hh, _, _, h3, h4⟩
  · injection hv with _ _ e3; omega
  · injection hv with e1 e2 e3
    subst e3
    exact ⟨g, cur, e1, hb, hh, h3, h4⟩
theorem Own.of_row {w : World} {base n c g : Nat} {t : TypeId} {xs : List Value} {size : Nat} {cur : Array Value} (hb : base ≤ g) (hh : w.heap[g]? = some (.cells cur t (0, 0))) (hs : cur.size = c * size) (hn : n ≤ c) (hm : c ≤ maxLen) (hx : cur.toList.take (n * size) = xs) : Own w base t size (some ⟨g, 0, none⟩) n c xs := by
  refine ⟨?_, .inr ⟨g, c, cur, rfl, hb, hh, hn, hm, hs, hx⟩⟩
  rw [← hx, List.length_take, Array.length_toList, hs, Nat.min_eq_left (Nat.mul_le_mul_right _ hn)]
theorem Blk.shape {w : World} {g : Nat} {t : TypeId} {cs : Array Value} (h : Blk w g t cs) (h0 : 0 < cs.size) : ∃ e k, w.shape? g = some (e, k) ∧ k ≠ 0 := by
  obtain ⟨e, k, h1, h2, _⟩ := World.shape?_of_cell? (h.at_ (i := 0) (Array.getElem?_eq_getElem h0))
  exact ⟨e, k, h1, by omega⟩
end Go.Proofs.YtfopihlbdceepaaGreat
