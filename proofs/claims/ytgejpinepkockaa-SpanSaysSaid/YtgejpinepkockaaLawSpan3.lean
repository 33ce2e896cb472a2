/-
  The law SpanSays, joined. Conditions: the slices read as lists.
-/
import Derived.Test.YtgejpinepkockaaLawSpan2
namespace Go.Proofs.Ytgejpinepkockaa
open Go.RowKit
theorem law_span (A : Option Addr) (n c : Nat) (ps : List (Int × Int)) (r : Int) (B : Option Addr) (m d : Nat) (bs : List Bool) (w : World) (h : Sp w A n c ps) (hk : Sb w B m d bs) :
    Calls Try.prog 12 #[.slice A n c, .int .i64 r, .slice B m d] w fun e w' => e = .returned (.bool true) ∧ Below w.heap.size w w' := by
  by_cases h0 : spanErr n ps = 0
  · exact law_span_good h hk h0
  · exact law_span_bad h hk h0
end Go.Proofs.Ytgejpinepkockaa
