/-
  How an argument is opened that is a slice of slices of numbers. Conditions: the reading itself; no program is named here.
-/
import Derived.Test.YtfopihlbdceepaaGreatOpen2
namespace Go.Proofs.YtfopihlbdceepaaGreat
open Go.ChangeShapes Go.WideShapes Go.ChangeAt Go.RowKit Go.Deep

/-- A row as it lies in its slice, with what it reads as. -/
abbrev Row := Option Addr × Nat × Nat × List Int
def rowV (o : Row) : Value := .slice o.1 o.2.1 o.2.2.1
structure Ss (w : World) (A : Option Addr) (n c : Nat) (os : List Row) : Prop where
  s : Sl w w.heap.size 1 A n c (os.map rowV)
  r : ∀ o ∈ os, Si w o.1 o.2.1 o.2.2.1 o.2.2.2
theorem Ss.on {w w' : World} {A : Option Addr} {n c : Nat} {os : List Row} (h : Ss w A n c os) (hb : Below w.heap.size w w') : Ss w' A n c os := ⟨h.s.on hb, fun o ho => (h.r o ho).on hb⟩
theorem Ss.len {w : World} {A : Option Addr} {n c : Nat} {os : List Row} (h : Ss w A n c os) : os.length = n := by have := h.s.len; simpa using this
theorem Ss.cell {w : World} {A : Option Addr} {n c : Nat} {os : List Row} (h : Ss w A n c os) {j : Nat} (hj : j < n) :
    ∃ ad o, A = some ad ∧ ad.block < w.heap.size ∧ os[j]? = some o ∧ w.cell? (ad.add j) = some (.slice o.1 o.2.1 o.2.2.1) ∧ Si w o.1 o.2.1 o.2.2.1 o.2.2.2 := by
  have hl := h.len
  have hx : os[j]? = some (os[j]'(by omega)) := List.getElem?_eq_getElem (by omega)
  obtain ⟨ad, e, hb, hc⟩ := h.s.cell (j := j) (u := rowV (os[j]'(by omega))) (by rw [List.getElem?_map, hx]; rfl)
  exact ⟨ad, _, e, hb, hx, hc, h.r _ (List.mem_of_getElem? hx)⟩
section
variable {H : Type} {enc : TypeId × Value → H} {P : Program} {w : World} {base : Nat} {sp : Nat → Bool} {held : Bool}
theorem open_ss {r : Reach} {b0 : Nat} {t e e2 : TypeId} {v : Value} {d : DataW H} {p : List MemPlace} (ht : P.underlying t = some (.slice e)) (he : P.underlying e = some (.slice e2)) (he2 : P.underlying e2 = some (.int .i64)) (hc : P.cellsOf e = 1) (hc2 : P.cellsOf e2 = 1)
    (hv : Value.okWide P w r b0 t v) (h : DataW.Trod enc P w base sp held t v d p) :
    ∃ A n c os, v = .slice A n c ∧ Ss w A n c os ∧ Long d n := by
  obtain ⟨A, n, c, rfl⟩ := okWide_slice ht hv
  obtain ⟨fuel, hf⟩ := h
  obtain ⟨A, n, c, xs, hv2, hs, hl, hx⟩ := open_sl_at (y := (d, p)) ht (by omega) (by simpa [Value.cells] using hf)
  rw [hc] at hs hx
  obtain ⟨os, h1, h2, h3⟩ := chunks (fun o : Row => [rowV o]) 1 (fun o => Si w o.1 o.2.1 o.2.2.1 o.2.2.2) n xs hs.len (fun k hk => by
    obtain ⟨m, D, hD⟩ := hx k hk
    have hlen : ((xs.drop (k * 1)).take 1).length = 1 := by
      rw [List.length_take, List.length_drop, hs.len]; omega
    obtain ⟨x, hxe⟩ : ∃ x, (xs.drop (k * 1)).take 1 = [x] := by
      match (xs.drop (k * 1)).take 1, hlen with
      | [x], _ => exact ⟨x, rfl⟩
    rw [hxe] at hD ⊢
    obtain ⟨A', n', c', zs, rfl, hsi, _, _⟩ := open_si_at he he2 hc2 hD
    exact ⟨(A', n', c', zs), hsi, rfl⟩)
  refine ⟨A, n, c, os, hv2, ⟨?_, h3⟩, hl⟩
  rw [show os.map rowV = os.flatMap (fun o : Row => [rowV o]) from by simp [List.map_eq_flatMap], ← h2]
  exact hs
end
end Go.Proofs.YtfopihlbdceepaaGreat
