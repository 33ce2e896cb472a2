/-
  slices.Delete at []int of a row of the call's own. Condition: the row is the call's own.
-/
import Derived.Test.YtkliebhpdcjdgaaDoorOwn2
import Derived.Test.YtkliebhpdcjdgaaDoorProg
import Derived.Shelf.SlGeneric
import Derived.Shelf.SlicesG.Delete
import Derived.Ground.SlgnProg
import Derived.WalkKit
namespace Go.Proofs.YtkliebhpdcjdgaaDoor
open Go.RowKit Go.Sort Go.Shelf

def laysDel_ren : Go.Shelf.Ren := ⟨fun | 45 => 56 | n => n, fun | 22 => 57 | 23 => 3 | 3 => 3 | 4 => 4 | 0 => 0 | n => n, fun | n => n⟩
theorem laysDel : Go.Proofs.SlLaysN.n45 Tryd.prog laysDel_ren := {
  mixed := by kernel_rfl
  f45 := ⟨Tryd.f56.name, by decide, Tryd.func56.trans (congrArg some (by kernel_rfl))⟩
  t0 := Tryd.underlying0
  a0 := Tryd.isAgg0
  z0 := Tryd.sizeOf0
  v0 := Tryd.zeroValue0
  t3 := Tryd.underlying3
  a3 := Tryd.isAgg3
  z3 := Tryd.sizeOf3
  v3 := Tryd.zeroValue3
  t4 := Tryd.underlying4
  a4 := Tryd.isAgg4
  z4 := Tryd.sizeOf4
  v4 := Tryd.zeroValue4
  t22 := Tryd.underlying57
  a22 := Tryd.isAgg57
  z22 := Tryd.sizeOf57
  v22 := Tryd.zeroValue57
  t23 := Tryd.underlying3
  a23 := Tryd.isAgg3
  z23 := Tryd.sizeOf3
  v23 := Tryd.zeroValue3
  i23 := by kernel_rfl }
theorem putRow_heap (w : World) (g q : Nat) (d : Array Int) (k : Nat) : (putRow (Value.int .i64) (Sort.ahead w q) g 0 d).heap[k]? = if g = k then (w.heap[k]?).map (onCells (putCells (Value.int .i64) 0 d)) else w.heap[k]? := by
  simp [putRow, mapBlock, Array.getElem?_modify, heap_ahead]
section
variable {w : World} {base g n c q : Nat} {e : TypeId} {zs ds : List Int}
theorem Own.put (h : Own w base e 1 (some ⟨g, 0, none⟩) n c (ints zs)) (hl : ds.length = n) : Own (putRow (Value.int .i64) (Sort.ahead w q) g 0 ds.toArray) base e 1 (some ⟨g, 0, none⟩) n c (ints ds) := by
  refine ⟨by rw [ints_len, hl]; simp, ?_⟩
  rcases h.2 with ⟨hv, _⟩ | ⟨g', cap, cur, hv, hb, hh, h1, h2, h3, h4⟩
  · cases hv
  · injection hv with hv e2 e3
    injection hv with hv
    injection hv with hv
    subst hv
    refine .inr ⟨g, cap, putCells (Value.int .i64) 0 ds.toArray cur, by rw [e3], hb, ?_, h1, h2, by simp [putCells, h3], ?_⟩
    · rw [putRow_heap, if_pos rfl, hh]; rfl
    · apply List.ext_getElem?
      intro k
      rw [List.getElem?_take, ints_getElem?]
      by_cases hk : k < n * 1
      · rw [if_pos hk, Array.getElem?_toList]
        have hkc : k < cur.size := by rw [h3]; omega
        simp only [putCells, Array.getElem?_mapIdx, Array.getElem?_eq_getElem hkc, Option.map_some]
        rw [if_pos ⟨Nat.zero_le _, by simp [hl]; omega⟩]
        have hkd : k < ds.length := by omega
        rw [List.getElem?_eq_getElem hkd, Nat.sub_zero, getElem!_pos ds.toArray k (by simpa using hkd)]
        simp
      · rw [if_neg hk, List.getElem?_eq_none (by omega)]; rfl
theorem Own.put_far {base2 n2 c2 size2 : Nat} {e2 : TypeId} {A2 : Option Addr} {xs : List Value} {d : Array Int} (h : Own w base2 e2 size2 A2 n2 c2 xs) (hap : blockOf A2 ≠ some g) : Own (putRow (Value.int .i64) (Sort.ahead w q) g 0 d) base2 e2 size2 A2 n2 c2 xs := by
  refine ⟨h.1, ?_⟩
  rcases h.2 with hn | ⟨g', cap, cur, hv, hg, hh, r⟩
  · exact .inl hn
  · refine .inr ⟨g', cap, cur, hv, hg, ?_, r⟩
    injection hv with hv
    rw [putRow_heap, if_neg (fun e => hap (by rw [hv, e]; rfl))]
    exact hh
theorem below_put {w0 : World} {B : Nat} {d : Array Int} (h : Below B w0 w) (hg : B ≤ g) : Below B w0 (putRow (Value.int .i64) (Sort.ahead w q) g 0 d) :=
  ⟨h.os, h.tape, h.output, by rw [size_putRow]; exact h.size, fun k hk => by rw [putRow_heap, if_neg (by omega)]; exact h.block k hk⟩
theorem delete_own (h : Own w base 3 1 (some ⟨g, 0, none⟩) n c (ints zs)) {k : Nat} (hk : k < n) {e : Int} (he : e = (k : Int) + 1) :
    Calls Tryd.prog 56 #[.slice (some ⟨g, 0, none⟩) n c, .int .i64 k, .int .i64 e] w fun e w' => e = .returned (.slice (some ⟨g, 0, none⟩) (n - 1) c) ∧ ∃ q, w' = putRow (Value.int .i64) (Sort.ahead w q) g 0 (zs.eraseIdx k ++ [0]).toArray := by
  subst he
  have hlen := h.sl.ilen
  have hc := h.sl.cap
  have hm := h.sl.max
  have hH : Holds (Value.int .i64) w g 0 zs.toArray := by
    intro j hj
    have hj' : j < zs.length := by simpa using hj
    rw [Nat.zero_add]
    refine ⟨?_, h.free j⟩
    rw [getElem!_pos zs.toArray j hj]
    apply h.cell
    rw [ints_getElem?, List.getElem?_eq_getElem hj']
    simp
  have hcon := AnyG.slices_Delete_int laysDel g 0 c k (k + 1) zs w hH (by omega) (by simp only [maxLen] at hm; omega) (by omega) (by omega)
  rw [hlen, show n - (k + 1 - k) = n - 1 by omega, show k + 1 - k = 1 by omega, ← List.eraseIdx_eq_take_drop_succ] at hcon
  exact hcon
structure Deled (w w' : World) (base g n c : Nat) (zs : List Int) : Prop where
  own : Own w' base 3 1 (some ⟨g, 0, none⟩) n c (ints zs)
  far : ∀ (base2 : Nat) (e2 : TypeId) (size2 : Nat) (A2 : Option Addr) (n2 c2 : Nat) (xs : List Value), Own w base2 e2 size2 A2 n2 c2 xs → blockOf A2 ≠ some g → Own w' base2 e2 size2 A2 n2 c2 xs
  below : ∀ (B : Nat) (w0 : World), Below B w0 w → B ≤ g → Below B w0 w'
theorem delete_row (h : Own w base 3 1 (some ⟨g, 0, none⟩) n c (ints zs)) {k : Nat} (hk : k < n) {e : Int} (he : e = (k : Int) + 1) :
    Calls Tryd.prog 56 #[.slice (some ⟨g, 0, none⟩) n c, .int .i64 k, .int .i64 e] w fun e w' => e = .returned (.slice (some ⟨g, 0, none⟩) (n - 1) c) ∧ Deled w w' base g (n - 1) c (zs.eraseIdx k) := by
  refine (delete_own h hk he).mono ?_
  rintro e w' ⟨he, q, hw⟩
  have hlen := h.sl.ilen
  have hl1 : (zs.eraseIdx k).length = n - 1 := by rw [List.length_eraseIdx, if_pos (by omega)]; omega
  have o1 := h.put (q := q) (ds := zs.eraseIdx k ++ [0]) (by rw [List.length_append, hl1]; simp; omega)
  rw [ints_append] at o1
  rw [← hw] at o1
  have en : n = (n - 1) + 1 := by omega
  rw [en] at o1
  exact ⟨he, Own.init (v := .int .i64 0) o1 (by rw [ints_len, hl1]), fun base2 e2 size2 A2 n2 c2 xs h2 hap => by rw [hw]; exact h2.put_far hap, fun B w0 hb hg => by rw [hw]; exact below_put hb hg⟩
theorem map_erase {α β : Type} (f : α → β) (l : List α) (k : Nat) : (l.map f).eraseIdx k = (l.eraseIdx k).map f := by
  rw [List.eraseIdx_eq_take_drop_succ, List.eraseIdx_eq_take_drop_succ, List.map_append, List.map_take, List.map_drop]
end
end Go.Proofs.YtkliebhpdcjdgaaDoor
