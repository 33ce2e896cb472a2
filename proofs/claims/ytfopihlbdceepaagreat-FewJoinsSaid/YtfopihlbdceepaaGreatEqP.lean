/-
  Words for slices.Equal: lists that are the same. No condition; no program is named here.
-/
import Derived.Test.YtfopihlbdceepaaGreatProg
import Derived.Test.YtfopihlbdceepaaGreatMem
import Derived.WalkKit
import Derived.WalkSpells
import Derived.Deep.QuietTactic
import Derived.BigQuiet
namespace Go.Proofs.YtfopihlbdceepaaGreat
open Go.RowKit

/-- Are two lists the same? -/
def same (xs ys : List Int) : Bool := decide (xs = ys)
theorem same_yes {xs ys : List Int} (h : xs = ys) : same xs ys = true := by simp [same, h]
theorem same_no {xs ys : List Int} (h : xs ≠ ys) : same xs ys = false := by simp [same, h]
theorem quiet_mk {w w' : World} {v v' : Value} {q : Nat} (h : v' = v) (hw : w' = w.drewN q) : Quiet w v (.returned v') w' := ⟨by rw [h], q, hw⟩
theorem take_next {xs ys : List Int} {k : Nat} {x y : Int} (h : xs.take k = ys.take k) (hx : xs[k]? = some x) (hy : ys[k]? = some y) (e : x = y) : xs.take (k + 1) = ys.take (k + 1) := by
  rw [List.take_add_one, List.take_add_one, h, hx, hy, e]
theorem differ_at {xs ys : List Int} {k : Nat} {x y : Int} (hx : xs[k]? = some x) (hy : ys[k]? = some y) (e : ¬ x = y) : xs ≠ ys := by
  rintro rfl; rw [hx] at hy; exact e (by injection hy)

end Go.Proofs.YtfopihlbdceepaaGreat
