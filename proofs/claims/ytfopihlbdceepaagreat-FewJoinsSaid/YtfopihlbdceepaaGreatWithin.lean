/-
  Is a number from one to another? The walk of the reference's test. No condition.
-/
import Derived.Test.YtfopihlbdceepaaGreatProg
import Derived.Test.YtfopihlbdceepaaGreatMem
import Derived.WalkKit
import Derived.WalkSpells
namespace Go.Proofs.YtfopihlbdceepaaGreat
open Go.RowKit

/-- Is x from a to b? -/
def inR (x a b : Int) : Bool := decide (a ≤ x ∧ x ≤ b)
theorem inR_yes {x a b : Int} (h : a ≤ x ∧ x ≤ b) : inR x a b = true := by simp [inR, h]
theorem inR_no {x a b : Int} (h : ¬ (a ≤ x ∧ x ≤ b)) : inR x a b = false := by simp only [inR]; exact decide_eq_false h

theorem within_any (x a b : Int) (w : World) : Calls Tryz.prog 17 #[.int .i64 x, .int .i64 a, .int .i64 b] w fun e w' => e = .returned (.bool (inR x a b)) ∧ w = w' := by
  by_cases h1 : a ≤ x
  · by_cases h2 : x ≤ b
    · have E := hide (inR_yes ⟨h1, h2⟩)
      go_enter Tryz.func17, Tryz.ntmps17
      go_wp2
      go_ret
      exact ⟨by rw [E.out]; rfl, rfl⟩
    · have E := hide (inR_no (x := x) (a := a) (b := b) (by omega))
      go_enter Tryz.func17, Tryz.ntmps17
      go_wp2
      go_ret
      exact ⟨by rw [E.out]; rfl, rfl⟩
  · have E := hide (inR_no (x := x) (a := a) (b := b) (by omega))
    go_enter Tryz.func17, Tryz.ntmps17
    go_wp2
    go_ret
    exact ⟨by rw [E.out]; rfl, rfl⟩
end Go.Proofs.YtfopihlbdceepaaGreat
