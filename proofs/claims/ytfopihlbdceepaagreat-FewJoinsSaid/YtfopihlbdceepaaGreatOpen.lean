/-
  How this seat's arguments are opened: what the form's reading of an argument says in the words of Mem. Conditions: the reading itself; no program is named here.
-/
import Derived.Test.YtfopihlbdceepaaGreatMem
import Derived.ProofKit
import Derived.OpenShut
import Derived.ShutString
import Derived.ChangeOld
import Derived.SizedLaws
import Derived.Lib.SmallJoins
namespace Go.Proofs.YtfopihlbdceepaaGreat
open Go.ChangeShapes Go.WideShapes Go.ChangeAt Go.RowKit

theorem block_lt {w : World} {a : Addr} {v : Value} (h : w.cell? a = some v) : a.block < w.heap.size := by
  rcases Nat.lt_or_ge a.block w.heap.size with hlt | hge
  · exact hlt
  · simp [World.cell?, Array.getElem?_eq_none hge] at h

/-- The datum of a slice of n elements. -/
def Long {H : Type} (d : DataW H) (n : Nat) : Prop := n = 0 ∨ ∃ el sq, d = .slice el sq ∧ el.length = n

theorem reach_of {H : Type} {P : Program} {ts : List TypeId} {ds : List (DataW H)} (hsz : (DataW.weightsEach P ts ds).all (· ≤ reachBytes) = true) {j : Nat} {t e : TypeId} {d : DataW H} {n : Nat} (hl : Long d n)
    (ht : ts[j]? = some t) (hd : ds[j]? = some d) (hu : P.underlying t = some (.slice e)) : n * P.bytesOf e ≤ 140737488351232 := by
  rcases hl with rfl | ⟨el, sq, rfl, rfl⟩
  · simp
  · have h := sized_slice hsz ht hd hu
    have h2 : el.length * P.bytesOf e ≤ (el.length + sq.length) * P.bytesOf e := Nat.mul_le_mul_right _ (by omega)
    simp only [reachBytes] at h
    omega

section
variable {H : Type} {enc : TypeId × Value → H} {P : Program} {w : World} {base : Nat} {sp : Nat → Bool} {held : Bool}
/-- From the cells' reading alone (a field of a struct, an element of a slice). -/
theorem open_si_at {t e : TypeId} {v : Value} {fuel : Nat} {y : DataW H × List MemPlace} (ht : P.underlying t = some (.slice e)) (he : P.underlying e = some (.int .i64)) (hc : P.cellsOf e = 1)
    (hf : DataW.trod enc P w base sp held fuel t [v] = some y) :
    ∃ A n c zs, v = .slice A n c ∧ Si w A n c zs ∧ AllI64 zs ∧ Long y.1 n := by
  obtain ⟨d, p⟩ := y
  rcases open_ints ht he hc hf with ⟨hcs, hx⟩ | ⟨x, n, c, zs, hcs, _, hl, hm, hz, hx, hcell, hwz⟩
  · simp only [List.cons.injEq, and_true] at hcs
    subst hcs
    exact ⟨none, 0, 0, [], rfl, Sl.nil _ _ _, fun _ h => by simp at h, .inl rfl⟩
  · simp only [List.cons.injEq, and_true] at hcs
    subst hcs
    have hlz : n ≤ zs.length := by rw [hz]; split <;> omega
    have hlen : (zs.take n).length = n := by rw [List.length_take]; omega
    have hat : ∀ j u, (ints (zs.take n))[j]? = some u → w.cell? (x.add j) = some u := by
      intro j u hu
      have hj : j < n := by
        have h1 := (List.getElem?_eq_some_iff.1 hu).1
        rw [ints_len, hlen] at h1
        exact h1
      have h2 := hcell j (by omega)
      rw [ints_getElem?, List.getElem?_take_of_lt hj, List.getElem?_eq_getElem (by omega)] at hu
      rw [h2, ← hu]
      simp [List.getD, List.getElem?_eq_getElem (show j < zs.length by omega)]
    refine ⟨some x, n, c, zs.take n, rfl, ⟨by rw [ints_len, hlen]; simp, hl, hm, (fun h => by cases h), fun hn => ⟨x, rfl, ?_, hat⟩⟩, ?_, .inr ?_⟩
    · have h0 := hcell 0 (by omega)
      have h3 := block_lt h0
      rwa [add_block] at h3
    · intro y hy
      have h4 := hwz y (List.mem_of_mem_take hy)
      exact bounds_i64 h4
    · simp only [Prod.mk.injEq] at hx
      exact ⟨_, _, hx.1, by simp [lits]; omega⟩

theorem open_si {r : Reach} {b0 : Nat} {t e : TypeId} {v : Value} {d : DataW H} {p : List MemPlace} (ht : P.underlying t = some (.slice e)) (he : P.underlying e = some (.int .i64)) (hc : P.cellsOf e = 1)
    (hv : Value.okWide P w r b0 t v) (h : DataW.Trod enc P w base sp held t v d p) :
    ∃ A n c zs, v = .slice A n c ∧ Si w A n c zs ∧ AllI64 zs ∧ Long d n := by
  obtain ⟨A, n, c, rfl⟩ := okWide_slice ht hv
  obtain ⟨fuel, hf⟩ := h
  exact open_si_at (y := (d, p)) ht he hc (by simpa [Value.cells] using hf)
theorem open_int_at {t : TypeId} {k : IntKind} {v : Value} {fuel : Nat} {y : DataW H × List MemPlace} (ht : P.underlying t = some (.int k)) (hf : DataW.trod enc P w base sp held fuel t [v] = some y) :
    ∃ n, v = .int k n ∧ (Lit.int k n).wf = true := by
  obtain ⟨n, h, _, hw⟩ := DataW.trod_int ht hf
  simp only [List.cons.injEq, and_true] at h
  exact ⟨n, h, hw⟩
end
end Go.Proofs.YtfopihlbdceepaaGreat
