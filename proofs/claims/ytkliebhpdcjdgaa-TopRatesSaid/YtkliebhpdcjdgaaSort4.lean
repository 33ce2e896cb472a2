/-
  slices.symMergeCmpFunc, stableCmpFunc, SortStableFunc at int: the walks. Conditions: the slice is a row of the call's own that holds each number below its length once; what the function value answers.
-/
import Derived.Test.YtkliebhpdcjdgaaSort4up
import Derived.Test.YtkliebhpdcjdgaaSort4dn
import Derived.Deep.DeepCutAuto
namespace Go.Proofs.Ytkliebhpdcjdgaa
open Go.RowKit

section
variable {w0 w : World} {B gb n c a m b : Nat} {xs : List Int} {g : FuncId} {v : Value} {κ : Int → Int}
theorem sym_any (E : SortEnv B w0 g v κ n) (hn : n ≤ 1000) : ∀ (K a m b : Nat) (xs : List Int) (w : World), b - a ≤ K → Rw w0 w B gb n c xs → Pm n xs → SymPre κ n a m b xs →
    Calls Try.prog 159 #[.slice (some ⟨gb, 0, none⟩) n c, .int .i64 (a : Int), .int .i64 (m : Int), .int .i64 (b : Int), .func (.func g) #[] #[v]] w (SrtRet κ w0 B gb n c a b xs)
  | 0, a, m, b, xs, w, hK, h, hp, p => absurd p.am (by have := p.mb; omega)
  | K + 1, a, m, b, xs, w, hK, h, hp, p => by
    by_cases hm1 : m = a + 1
    · exact sym_one E h hp p hm1 hn
    by_cases hb1 : b = m + 1
    · exact sym_two E h hp p hm1 hb1 hn
    have IH := hide (fun (a m b : Nat) (xs : List Int) (w : World) (hK : b - a ≤ K) (h : Rw w0 w B gb n c xs) (hp : Pm n xs) (p : SymPre κ n a m b xs) => sym_any E hn K a m b xs w hK h hp p)
    by_cases hmm : (a + b) / 2 < m
    · exact sym_up E hn IH.out (by omega) h hp p hm1 hb1 hmm
    · exact sym_dn E hn IH.out (by omega) h hp p hm1 hb1 hmm
end
end Go.Proofs.Ytkliebhpdcjdgaa
