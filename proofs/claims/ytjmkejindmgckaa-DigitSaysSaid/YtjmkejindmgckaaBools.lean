/-
  Slices of bools: the table's word, and how they read. No condition.
-/
import Derived.Test.YtjmkejindmgckaaProg
import Derived.Test.YtjmkejindmgckaaApp
import Derived.Test.YtjmkejindmgckaaOpen2
namespace Go.Proofs.Ytjmkejindmgckaa
open Go.RowKit

theorem T_bool : ElemT Try.prog 40 4 (.bool false) 1 1 := ⟨Try.underlying40, by kernel_rfl, rfl, by decide⟩
abbrev Sb (w : World) (A : Option Addr) (n c : Nat) (bs : List Bool) : Prop := Sl w w.heap.size 1 A n c (bools bs)
end Go.Proofs.Ytjmkejindmgckaa
