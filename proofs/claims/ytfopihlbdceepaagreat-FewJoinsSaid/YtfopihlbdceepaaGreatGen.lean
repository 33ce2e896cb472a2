/-
  Rows of the call's own, further: cells stored in a run, the built-in clear of a row's end. Conditions: those that each lemma names; no program is named here.
-/
import Derived.Test.YtfopihlbdceepaaGreatOwn2
import Derived.Lib.SliceRun
namespace Go.Proofs.YtfopihlbdceepaaGreat
open Go.RowKit

theorem grown_set (w : World) (g j : Nat) (u : Value) : w.grownBy (w.setCell ⟨g, j, none⟩ u) (some g) := by
  have b : Below 0 w (w.setCell ⟨g, j, none⟩ u) := (Below.refl 0 w).setCell (Nat.zero_le _) u
  exact ⟨b.os, b.tape, b.output, b.size, fun k _ hk => Below.heap_setCell _ _ _ _ (fun e => hk (by rw [e]))⟩
/-- A list with a run of values laid over it from place o on. -/
def layAt : List Value → Nat → List Value → List Value
  | xs, _, [] => xs
  | xs, o, v :: vs => layAt (xs.set o v) (o + 1) vs
theorem layAt_take : ∀ (vs xs : List Value) (o m : Nat), m ≤ o → (layAt xs o vs).take m = xs.take m
  | [], _, _, _, _ => rfl
  | v :: vs, xs, o, m, h => by
    rw [layAt, layAt_take vs _ (o + 1) m (by omega), List.take_set_of_le h]
section
variable {w : World} {base size n c g : Nat} {e : TypeId} {xs : List Value}
theorem Own.setCells : ∀ (vs : List Value) (o : Nat) (w : World) (xs : List Value), Own w base e size (some ⟨g, 0, none⟩) n c xs →
    Own (w.setCells g o vs) base e size (some ⟨g, 0, none⟩) n c (layAt xs o vs) ∧ w.grownBy (w.setCells g o vs) (some g)
  | [], _, _, _, h => ⟨h, World.grownBy.refl _ _⟩
  | v :: vs, o, w, xs, h => by
    obtain ⟨h1, h2⟩ := Own.setCells vs (o + 1) _ _ (h.set o v)
    exact ⟨h1, (grown_set w g o v).trans h2⟩
theorem zero_cells_one {z : Value} (hz : ∀ u ∈ z.cells.toList, u.oneCell' = true) (hp : 0 < z.cells.size) (n : Nat) : ∀ u ∈ (Builtin.zeroCells z.cells n).toList, u.oneCell' = true := by
  intro u hu
  unfold Builtin.zeroCells at hu
  simp only [Array.toList_map, List.mem_map] at hu
  obtain ⟨i, _, rfl⟩ := hu
  have hi : i % z.cells.size < z.cells.size := Nat.mod_lt _ hp
  rw [getElem!_pos z.cells _ hi]
  exact hz _ (Array.mem_toList_iff.2 (Array.getElem_mem hi))
/-- 'clear(s[i:])' of a row of the call's own: what stays ahead of it. -/
theorem run_clear_own {P : Program} {t : TypeId} {z : Value} {bytes : Nat} (T : ElemT P t e z size bytes) (hv : ∀ w, (zeroValue e).run P w = .ok z w) (hz : ∀ u ∈ z.cells.toList, u.oneCell' = true)
    (h : Own w base e size (some ⟨g, 0, none⟩) n c xs) {i m : Nat} (hm : i + m = n) (h0 : 0 < m) :
    ∃ w', (∀ (ty : TypeId) (k : Nat), (Builtin.clear_ #[t] ty #[.slice (some ⟨g, i * size, none⟩) m k]).run P w = .ok (.tuple #[]) w') ∧ Own w' base e size (some ⟨g, 0, none⟩) i c (xs.take (i * size)) ∧ w.grownBy w' (some g) := by
  have hzs : (Builtin.zeroCells z.cells m).toList.length = m * size := by rw [Array.length_toList, size_zeroCells, T.zs]
  have hc : ∀ j, j < (Builtin.zeroCells z.cells m).toList.length → (w.cell? ⟨g, i * size + 0 + j, none⟩).isSome = true := by
    intro j hj
    rw [hzs] at hj
    have hlt : i * size + 0 + j < xs.length := by
      rw [h.len, ← hm, Nat.add_mul]
      omega
    rw [h.cell (List.getElem?_eq_getElem hlt)]
    rfl
  have hst := run_storeCells_cells (P := P) g (i * size) (Builtin.zeroCells z.cells m).toList 0 w hc (fun j _ => h.free _) (zero_cells_one hz (by rw [T.zs]; exact T.pos) m)
  simp only [Nat.add_zero] at hst
  obtain ⟨h1, h2⟩ := Own.setCells (Builtin.zeroCells z.cells m).toList (i * size) w xs h
  refine ⟨_, ?_, ?_, h2⟩
  · intro ty k
    obtain ⟨m', rfl⟩ : ∃ m', m = m' + 1 := ⟨m - 1, by omega⟩
    simp [Builtin.clear_, run_underlying T.ul, hv, hst]
  · have := h1.take (m := i) (by omega) (by omega)
    rwa [layAt_take _ _ _ _ (Nat.le_refl _)] at this
end
end Go.Proofs.YtfopihlbdceepaaGreat
