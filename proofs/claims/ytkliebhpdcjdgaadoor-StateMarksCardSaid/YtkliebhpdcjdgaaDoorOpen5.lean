/-
  How arguments are opened, further: a bool in a struct. Condition: the reading itself; no program is named here.
-/
import Derived.Test.YtkliebhpdcjdgaaDoorOpen
namespace Go.Proofs.YtkliebhpdcjdgaaDoor
open Go.ChangeShapes Go.WideShapes Go.ChangeAt Go.RowKit
section
variable {H : Type} {enc : TypeId × Value → H} {P : Program} {w : World} {base : Nat} {sp : Nat → Bool} {held : Bool}
theorem open_bool_at {t : TypeId} {v : Value} {fuel : Nat} {y : DataW H × List MemPlace} (ht : P.underlying t = some .bool) (hf : DataW.trod enc P w base sp held fuel t [v] = some y) : ∃ b, v = .bool b := by
  obtain ⟨b, h, _⟩ := DataW.trod_bool ht hf
  simp only [List.cons.injEq, and_true] at h
  exact ⟨b, h⟩
end
end Go.Proofs.YtkliebhpdcjdgaaDoor
