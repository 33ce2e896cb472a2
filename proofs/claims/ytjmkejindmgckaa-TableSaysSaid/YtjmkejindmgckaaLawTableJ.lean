/-
  The walk of the law TableSays. Conditions: the rows read as lists of numbers.
-/
import Derived.Test.YtjmkejindmgckaaLawTableU1
import Derived.Test.YtjmkejindmgckaaLawTableU2
import Derived.Test.YtjmkejindmgckaaLawTableU3
import Derived.Test.YtjmkejindmgckaaLawTableU4
import Derived.Test.YtjmkejindmgckaaOpen4
namespace Go.Proofs.Ytjmkejindmgckaa
open Go.RowKit

theorem law_table (W : Int) (A : Option Addr) (n c : Nat) (os : List Row) (W2 : Int) (A2 : Option Addr) (n2 c2 : Nat) (os2 : List Row) (key x : Int) (w : World) (h : Ss w A n c os) (h2 : Ss w A2 n2 c2 os2) :
    Calls Try.prog 8 #[.agg #[.int .i64 W, .slice A n c], .agg #[.int .i64 W2, .slice A2 n2 c2], .int .i64 key, .int .i64 x] w fun e w' => e = .returned (.bool true) ∧ Below w.heap.size w w' := by
  by_cases he : tabErr W n (rows os) = 0
  · have hk := tabOk_rows h he
    obtain ⟨m, rfl⟩ := Int.eq_ofNat_of_zero_le (show 0 ≤ W by have := hk.w1; omega)
    by_cases hx : 0 ≤ x ∧ x ≤ 1000000000000
    · obtain ⟨x0, x1⟩ := hx
      by_cases he3 : tabErr W2 n2 (rows os2) = 0
      · by_cases h3 : (m : Int) = W2
        · subst h3
          by_cases h4 : n = n2
          · subst h4
            exact law_table_ok4 h h2 he x0 x1 he3
          · exact law_table_ok3 h h2 he x0 x1 he3 h4
        · exact law_table_ok2 h h2 he x0 x1 he3 h3
      · exact law_table_ok1 h h2 he x0 x1 rfl he3
    · by_cases he3 : tabErr W2 n2 (rows os2) = 0
      · by_cases h3 : (m : Int) = W2
        · subst h3
          by_cases h4 : n = n2
          · subst h4
            exact law_table_bad4 h h2 he hx he3
          · exact law_table_bad3 h h2 he hx he3 h4
        · exact law_table_bad2 h h2 he hx he3 h3
      · exact law_table_bad1 h h2 he hx rfl he3
  · exact law_table_bad h h2 rfl he
end Go.Proofs.Ytjmkejindmgckaa
