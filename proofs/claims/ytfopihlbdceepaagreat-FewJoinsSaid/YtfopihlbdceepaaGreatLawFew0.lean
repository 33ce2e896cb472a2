/-
  The walk of the law FewSays. Conditions: the counters read as a list of pairs; their keys are Go ints.
-/
import Derived.Test.YtfopihlbdceepaaGreatFewer
import Derived.Test.YtfopihlbdceepaaGreatSameC
import Derived.Test.YtfopihlbdceepaaGreatOrdM
namespace Go.Proofs.YtfopihlbdceepaaGreat
open Go.RowKit Go.Shelf Go.Maps

theorem few_zero : fwErr 0 0 0 [] = 1 := by decide
/-- The world that a walk has come to, by a name. -/
theorem at_world {K : Act → World → Prop} {a : Act} {W : World} (h : ∀ W', W' = W → K a W') : K a W := h W rfl
section
variable {A : Option Addr} {n c : Nat} {l : List Ct} {w : World} {K L key v : Int}
theorem rfew_is {E : Int} (h : Sp w A n c l) (hE : fwErr K L n l = E) : Calls Tryz.prog 7 #[.agg #[.int .i64 K, .int .i64 L, .slice A n c]] w fun e w' => e = .returned (.int .i64 E) ∧ Below w.heap.size w w' := by
  rw [← hE]; exact rfew_any K L h
theorem fcheck_is {E : Int} (h : Sp w A n c l) (hE : fwErr K L n l = E) : Calls Tryz.prog 12 #[.agg #[.int .i64 K, .int .i64 L, .slice A n c]] w fun e w' => e = .returned (.int .i64 E) ∧ Below w.heap.size w w' := by
  rw [← hE]; exact fcheck_any K L h
theorem few_store {X : World} {base g : Nat} {cs : Array Value} {xs : List Value} {u0 u1 u2 : Value} (h : Own X base 40 2 A n c xs) (hb : Blk X g 24 cs) :
    Own (((X.setCell ⟨g, 0, none⟩ u0).setCell ⟨g, 1, none⟩ u1).setCell ⟨g, 2, none⟩ u2) base 40 2 A n c xs := by
  have hne : ∀ g', A = some ⟨g', 0, none⟩ → g' ≠ g := fun g' e e2 => Own.apart_blk h hb (by decide) (by rw [e, e2]; rfl)
  exact ((h.far (p := ⟨g, 0, none⟩) hne u0).far (p := ⟨g, 1, none⟩) hne u1).far (p := ⟨g, 2, none⟩) hne u2
theorem few_none : Calls Tryz.prog 12 #[.agg #[.int .i64 0, .int .i64 0, .slice none 0 0]] w fun e w' => e = .returned (.int .i64 1) ∧ Below w.heap.size w w' := fcheck_is (Sl.nil _ _ 2) few_zero
theorem same_none : Calls Tryz.prog 8 #[.agg #[.int .i64 0, .int .i64 0, .slice none 0 0], .agg #[.int .i64 0, .int .i64 0, .slice none 0 0]] w fun e w' => e = .returned (.bool true) ∧ Below w.heap.size w w' := samef_yes (xs := []) (Sl.nil _ _ 2) (Sl.nil _ _ 2)

end
end Go.Proofs.YtfopihlbdceepaaGreat
