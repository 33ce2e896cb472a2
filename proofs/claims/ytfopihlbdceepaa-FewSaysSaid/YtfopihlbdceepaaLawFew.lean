/-
  The walk of the law FewSays, whole. Conditions: the counters read as a list of pairs of Go ints; the key is a Go int.
-/
import Derived.Test.YtfopihlbdceepaaLawFewB
import Derived.Test.YtfopihlbdceepaaLawFewL
import Derived.Test.YtfopihlbdceepaaLawFewH
import Derived.Test.YtfopihlbdceepaaLawFewY
namespace Go.Proofs.Ytfopihlbdceepaa
open Go.RowKit
theorem law_few (K L : Int) (A : Option Addr) (n c : Nat) (l : List Ct) (key v : Int) (w : World) (h : Sp w A n c l) (hf : ∀ p ∈ l, I64 p.1 ∧ I64 p.2) (hkey : I64 key) :
    Calls Try.prog 4 #[.agg #[.int .i64 K, .int .i64 L, .slice A n c], .int .i64 key, .int .i64 v] w fun e w' => e = .returned (.bool true) ∧ Below w.heap.size w w' := by
  have hkk : ∀ p ∈ l, I64 p.1 := fun p hp => (hf p hp).1
  by_cases h0 : fwErr K L n l = 0
  · by_cases h1 : v < 1
    · exact law_few_lo h h0 hkk hkey h1
    · by_cases h2 : 1000000000000 < v
      · exact law_few_hi h h0 hkk hkey h1 h2
      · have hok := fwErr_ok h.plen h0
        obtain ⟨k, rfl⟩ : ∃ k : Nat, K = k := ⟨K.toNat, by have := hok.k1; omega⟩
        exact law_few_ok h h0 hkk hkey (by omega) (by omega)
  · exact law_few_bad h rfl h0
end Go.Proofs.Ytfopihlbdceepaa
