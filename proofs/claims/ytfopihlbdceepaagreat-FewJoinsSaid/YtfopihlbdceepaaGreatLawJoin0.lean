/-
  The walk of the law FewJoins, what few.Join answers. Conditions: the counters read as lists of pairs.
-/
import Derived.Test.YtfopihlbdceepaaGreatFJoin2
import Derived.Test.YtfopihlbdceepaaGreatFJoin3
import Derived.Test.YtfopihlbdceepaaGreatMost
import Derived.Test.YtfopihlbdceepaaGreatFewRegJ
import Derived.Test.YtfopihlbdceepaaGreatSameC
namespace Go.Proofs.YtfopihlbdceepaaGreat
open Go.RowKit Go.Shelf Go.Maps
set_option linter.unusedVariables false

section
variable {A A2 A4 : Option Addr} {n c n2 c2 n4 c4 k : Nat} {l m : List Ct} {ls : List Int} {w : World} {K L K2 L2 : Int}
theorem fjoin_ok (h : Sp w A n c l) (hE : fwErr (k : Int) L n l = 0) (h2 : Sp w A2 n2 c2 m) (hE2 : fwErr (k : Int) L2 n2 m = 0) (hct : CtOk (l ++ m)) :
    Calls Tryz.prog 4 #[.agg #[.int .i64 k, .int .i64 L, .slice A n c], .agg #[.int .i64 k, .int .i64 L2, .slice A2 n2 c2]] w fun e w' => ∃ E K' L' A' n' c' l', e = .returned (.tuple #[.agg #[.int .i64 K', .int .i64 L', .slice A' n' c'], .int .i64 E]) ∧ Sp w' A' n' c' l' ∧ JoinedC (k : Int) (L + L2) (allC (l ++ m)) (E, K', L', l') ∧ Below w.heap.size w w' := by
  by_cases hl : (allC (l ++ m)).length ≤ k
  · exact fjoin_small h hE h2 hE2 hct hl
  · exact fjoin_big h hE h2 hE2 hct (by omega)
end
end Go.Proofs.YtfopihlbdceepaaGreat
