/-
  How a field is opened that is a slice of slices of numbers. Conditions: the reading itself; no program is named here.
-/
import Derived.Test.YtfopihlbdceepaaOpen3
import Derived.ChangeArms
namespace Go.Proofs.Ytfopihlbdceepaa
open Go.ChangeShapes Go.WideShapes Go.ChangeAt Go.RowKit Go.Deep

section
variable {H : Type} {enc : TypeId × Value → H} {P : Program} {w : World} {base : Nat} {sp : Nat → Bool} {held : Bool}
theorem open_ss_at {t e e2 : TypeId} {v : Value} {fuel : Nat} {y : DataW H × List MemPlace} (ht : P.underlying t = some (.slice e)) (he : P.underlying e = some (.slice e2)) (he2 : P.underlying e2 = some (.int .i64)) (hc : P.cellsOf e = 1) (hc2 : P.cellsOf e2 = 1)
    (hf : DataW.trod enc P w base sp held fuel t [v] = some y) :
    ∃ A n c os, v = .slice A n c ∧ Ss w A n c os ∧ Long y.1 n := by
  obtain ⟨A, n, c, xs, hv2, hs, hl, hx⟩ := open_sl_at ht (by omega) hf
  rw [hc] at hs hx
  obtain ⟨os, h1, h2, h3⟩ := chunks (fun o : Row => [rowV o]) 1 (fun o => Si w o.1 o.2.1 o.2.2.1 o.2.2.2) n xs hs.len (fun k hk => by
    obtain ⟨m, D, hD⟩ := hx k hk
    have hlen : ((xs.drop (k * 1)).take 1).length = 1 := by
      rw [List.length_take, List.length_drop, hs.len]; omega
    obtain ⟨x, hxe⟩ : ∃ x, (xs.drop (k * 1)).take 1 = [x] := by
      match (xs.drop (k * 1)).take 1, hlen with
      | [x], _ => exact ⟨x, rfl⟩
    rw [hxe] at hD ⊢
    obtain ⟨A', n', c', zs, rfl, hsi, _, _⟩ := open_si_at he he2 hc2 hD
    exact ⟨(A', n', c', zs), hsi, rfl⟩)
  refine ⟨A, n, c, os, hv2, ⟨?_, h3⟩, hl⟩
  rw [show os.map rowV = os.flatMap (fun o : Row => [rowV o]) from by simp [List.map_eq_flatMap], ← h2]
  exact hs
theorem open_bool_at {t : TypeId} {v : Value} {fuel : Nat} {y : DataW H × List MemPlace} (ht : P.underlying t = some .bool) (hf : DataW.trod enc P w base sp held fuel t [v] = some y) : ∃ b, v = .bool b := by
  obtain ⟨b, h, _⟩ := DataW.trod_bool ht hf
  simp only [List.cons.injEq, and_true] at h
  exact ⟨b, h⟩
theorem open_str_at {t : TypeId} {v : Value} {fuel : Nat} {y : DataW H × List MemPlace} (ht : P.underlying t = some .string) (hf : DataW.trod enc P w base sp held fuel t [v] = some y) : ∃ s : ByteArray, v = .string s ∧ s.size ≤ maxLen := by
  obtain ⟨s, h, _, hs⟩ := DataW.trod_string ht hf
  simp only [List.cons.injEq, and_true] at h
  exact ⟨s, h, hs⟩
end
end Go.Proofs.Ytfopihlbdceepaa
