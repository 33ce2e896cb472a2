/-
  No cell of these rows narrows 'for every input' (looked for: loops, veiled, ifaces, maps, wideKeys, modest, calm, conditions, laid).
  DERIVED. THE GIVEN ROWS OF THIS SEAT. 5 by the template 'for every input the law returns true; each argument reads behind the call as it read before'; 0 by the template 'total and deterministic' (their statements: YtkliebhpdcjdgaaTotals.lean).
  GIVEN WITH THE SEED: the statements are not yours to turn. If you find one false, say at which input.
  Laid BY PROGRAM, IN A SANDBOX (cutbox-rows.mjs): the forced cells as the released guide's own fill.sh prints them over the translation 5cd27e7dc2087ba5… (all of the seat's roots in one cut). By AI agents, Wed Nov 11 2026. No macro, syntax, notation, axiom, sorry.
-/
import Derived.Test.YtkliebhpdcjdgaaChecked
import GoSem.Claim
import GoSem.ClaimJoined
import GoSem.ClaimMapViews
import Derived.JoinedTies
import Derived.KernelRfl
namespace Go.Proofs.Ytkliebhpdcjdgaa
/- THE CELL 'sum', in the pinned program and in every row, IS THE sha256 OF THE DUMP (.gsa) THAT YtkliebhpdcjdgaaProg.lean LOADS. Nothing in Lean hashes anything: it is a label: what it is worth is what the hold of that sum in a sandbox is worth. -/
noncomputable def Try.pinned : Pinned := { name := "ytkliebhpdcjdgaa", sum := "5cd27e7dc2087ba5874f47f65a66ae2b0fadf68baee30f39a6edded0f7c55675", checked := Try.checked }
namespace Rows
def none {H : Type} : Left H := { results := [], args := [] }

/-- 'cullaw.RegsSay': WHATEVER THE INPUT: true; the input reads as it did. -/
def regsSaySpec : ChangeSpec := { name := "regsSay", fn := fun _ => fun
  | [d1, d2, d3] => { results := [.lit (.bool true)], args := [d1, d2, d3] }
  | _ => none }
def regsSayRow : OpenClaim := { program := "ytkliebhpdcjdgaa", sum := "5cd27e7dc2087ba5874f47f65a66ae2b0fadf68baee30f39a6edded0f7c55675", func := "cullender/cullaw.RegsSay", spec := "regsSay", unfollowed := true, recurses := true, apart := false }
def RegsSaySaid : Prop := regsSayRow.holds Try.pinned (OpenSpec.ofChange regsSaySpec)

/-- ITS FALSE NEIGHBOUR: 'it returns false'. Refute it at one input. -/
def regsSayWrong : ChangeSpec := { name := "regsSay", fn := fun _ => fun
  | [d1, d2, d3] => { results := [.lit (.bool false)], args := [d1, d2, d3] }
  | _ => none }
def RegsSayWrongFalsely : Prop := regsSayRow.holds Try.pinned (OpenSpec.ofChange regsSayWrong)

/-- 'cullaw.BottomSays': WHATEVER THE INPUT: true; the input reads as it did. -/
def bottomSaysSpec : ChangeSpec := { name := "bottomSays", fn := fun _ => fun
  | [d1, d2, d3] => { results := [.lit (.bool true)], args := [d1, d2, d3] }
  | _ => none }
def bottomSaysRow : OpenClaim := { program := "ytkliebhpdcjdgaa", sum := "5cd27e7dc2087ba5874f47f65a66ae2b0fadf68baee30f39a6edded0f7c55675", func := "cullender/cullaw.BottomSays", spec := "bottomSays", inPlace := ["slices.overlaps[int]"], recurses := true, named := ["math/bits.divideError", "math/bits.overflowError"], apart := false }
def BottomSaysSaid : Prop := bottomSaysRow.holds Try.pinned (OpenSpec.ofChange bottomSaysSpec)

/-- ITS FALSE NEIGHBOUR: 'it returns false'. Refute it at one input. -/
def bottomSaysWrong : ChangeSpec := { name := "bottomSays", fn := fun _ => fun
  | [d1, d2, d3] => { results := [.lit (.bool false)], args := [d1, d2, d3] }
  | _ => none }
def BottomSaysWrongFalsely : Prop := bottomSaysRow.holds Try.pinned (OpenSpec.ofChange bottomSaysWrong)

/-- 'cullaw.BoardSays': WHATEVER THE INPUT: true; the input reads as it did. -/
def boardSaysSpec : ChangeSpec := { name := "boardSays", fn := fun _ => fun
  | [d1, d2, d3, d4] => { results := [.lit (.bool true)], args := [d1, d2, d3, d4] }
  | _ => none }
def boardSaysRow : OpenClaim := { program := "ytkliebhpdcjdgaa", sum := "5cd27e7dc2087ba5874f47f65a66ae2b0fadf68baee30f39a6edded0f7c55675", func := "cullender/cullaw.BoardSays", spec := "boardSays", inPlace := ["internal/bytealg.abigen_runtime_cmpstring", "slices.overlaps[cullender/api.Rule]", "internal/reflectlite.ValueOf", "internal/reflectlite.Swapper", "(internal/reflectlite.Value).Len"], unfollowed := true, recurses := true, apart := false }
def BoardSaysSaid : Prop := boardSaysRow.holds Try.pinned (OpenSpec.ofChange boardSaysSpec)

/-- ITS FALSE NEIGHBOUR: 'it returns false'. Refute it at one input. -/
def boardSaysWrong : ChangeSpec := { name := "boardSays", fn := fun _ => fun
  | [d1, d2, d3, d4] => { results := [.lit (.bool false)], args := [d1, d2, d3, d4] }
  | _ => none }
def BoardSaysWrongFalsely : Prop := boardSaysRow.holds Try.pinned (OpenSpec.ofChange boardSaysWrong)

/-- 'cullaw.FewSays': WHATEVER THE INPUT: true; the input reads as it did. -/
def fewSaysSpec : ChangeSpec := { name := "fewSays", fn := fun _ => fun
  | [d1, d2, d3] => { results := [.lit (.bool true)], args := [d1, d2, d3] }
  | _ => none }
def fewSaysRow : OpenClaim := { program := "ytkliebhpdcjdgaa", sum := "5cd27e7dc2087ba5874f47f65a66ae2b0fadf68baee30f39a6edded0f7c55675", func := "cullender/cullaw.FewSays", spec := "fewSays", inPlace := ["slices.overlaps[cullender/api.Counter]", "internal/reflectlite.ValueOf", "internal/reflectlite.Swapper", "(internal/reflectlite.Value).Len"], unfollowed := true, recurses := true, apart := false }
def FewSaysSaid : Prop := fewSaysRow.holds Try.pinned (OpenSpec.ofChange fewSaysSpec)

/-- ITS FALSE NEIGHBOUR: 'it returns false'. Refute it at one input. -/
def fewSaysWrong : ChangeSpec := { name := "fewSays", fn := fun _ => fun
  | [d1, d2, d3] => { results := [.lit (.bool false)], args := [d1, d2, d3] }
  | _ => none }
def FewSaysWrongFalsely : Prop := fewSaysRow.holds Try.pinned (OpenSpec.ofChange fewSaysWrong)

/-- 'cultop.TopRates': WHATEVER THE INPUT: true; the input reads as it did. -/
def topRatesSpec : ChangeSpec := { name := "topRates", fn := fun _ => fun
  | [d1, d2] => { results := [.lit (.bool true)], args := [d1, d2] }
  | _ => none }
def topRatesRow : OpenClaim := { program := "ytkliebhpdcjdgaa", sum := "5cd27e7dc2087ba5874f47f65a66ae2b0fadf68baee30f39a6edded0f7c55675", func := "cullender/cultop.TopRates", spec := "topRates", inPlace := ["internal/bytealg.abigen_runtime_cmpstring", "slices.overlaps[cullender/api.Rule]"], unfollowed := true, recurses := true, apart := false }
def TopRatesSaid : Prop := topRatesRow.holds Try.pinned (OpenSpec.ofChange topRatesSpec)

/-- ITS FALSE NEIGHBOUR: 'it returns false'. Refute it at one input. -/
def topRatesWrong : ChangeSpec := { name := "topRates", fn := fun _ => fun
  | [d1, d2] => { results := [.lit (.bool false)], args := [d1, d2] }
  | _ => none }
def TopRatesWrongFalsely : Prop := topRatesRow.holds Try.pinned (OpenSpec.ofChange topRatesWrong)

/- THE SECOND FORM. 'bulk': how many values and letters a reading holds, each counted each time it is reached (what is shared counts as often as it is met; a slice's spare places count too). A statement '..UptoSaid' is the law's where the arguments, and the package variables that the reading takes, are together of bulk at most 1048576: NARROWER than '..Said'. Prove '..Said' where nothing that the law and all that it calls make is longer than what came in: it says more and counts as full. Else prove '..UptoSaid'. A law counts once. -/
mutual
def uptoBulk {H : Type} : DataW H → Nat
  | .lit (.string bytes) => bytes.length + 1
  | .lit _ => 1
  | .nil => 1
  | .ptr d => uptoBulk d + 1
  | .slice elems spare => uptoBulkAll elems + uptoBulkAll spare + 1
  | .agg parts => uptoBulkAll parts + 1
  | .iface _ d => uptoBulk d + 1
  | .map entries => uptoBulkEntries entries + 1
  | .held _ => 1
def uptoBulkAll {H : Type} : List (DataW H) → Nat
  | [] => 0
  | d :: r => uptoBulk d + uptoBulkAll r
def uptoBulkEntries {H : Type} : List (Lit × DataW H) → Nat
  | [] => 0
  | x :: r => uptoBulkEntry x + uptoBulkEntries r
def uptoBulkEntry {H : Type} : Lit × DataW H → Nat
  | (.string bytes, d) => bytes.length + uptoBulk d + 1
  | (_, d) => uptoBulk d + 1
 end
def uptoSmall : (H : Type) → List (DataW H) → Bool := fun _ ds => decide (uptoBulkAll ds ≤ 1048576)
def OpenSpec.upto (s : _root_.Go.ChangeSpec) : _root_.Go.OpenSpec := { _root_.Go.OpenSpec.ofChange s with cond := some uptoSmall }

/-- 'cullaw.RegsSay', WHERE WHAT IT READS IS OF BULK AT MOST 1048576: true; the input reads as it did. -/
def regsSayUptoRow : OpenClaim := { program := "ytkliebhpdcjdgaa", sum := "5cd27e7dc2087ba5874f47f65a66ae2b0fadf68baee30f39a6edded0f7c55675", func := "cullender/cullaw.RegsSay", spec := "regsSay", unfollowed := true, recurses := true, apart := false, narrowed := true }
def RegsSayUptoSaid : Prop := regsSayUptoRow.holds Try.pinned (OpenSpec.upto regsSaySpec)

/-- 'cullaw.BottomSays', WHERE WHAT IT READS IS OF BULK AT MOST 1048576: true; the input reads as it did. -/
def bottomSaysUptoRow : OpenClaim := { program := "ytkliebhpdcjdgaa", sum := "5cd27e7dc2087ba5874f47f65a66ae2b0fadf68baee30f39a6edded0f7c55675", func := "cullender/cullaw.BottomSays", spec := "bottomSays", inPlace := ["slices.overlaps[int]"], recurses := true, named := ["math/bits.divideError", "math/bits.overflowError"], apart := false, narrowed := true }
def BottomSaysUptoSaid : Prop := bottomSaysUptoRow.holds Try.pinned (OpenSpec.upto bottomSaysSpec)

/-- 'cullaw.BoardSays', WHERE WHAT IT READS IS OF BULK AT MOST 1048576: true; the input reads as it did. -/
def boardSaysUptoRow : OpenClaim := { program := "ytkliebhpdcjdgaa", sum := "5cd27e7dc2087ba5874f47f65a66ae2b0fadf68baee30f39a6edded0f7c55675", func := "cullender/cullaw.BoardSays", spec := "boardSays", inPlace := ["internal/bytealg.abigen_runtime_cmpstring", "slices.overlaps[cullender/api.Rule]", "internal/reflectlite.ValueOf", "internal/reflectlite.Swapper", "(internal/reflectlite.Value).Len"], unfollowed := true, recurses := true, apart := false, narrowed := true }
def BoardSaysUptoSaid : Prop := boardSaysUptoRow.holds Try.pinned (OpenSpec.upto boardSaysSpec)

/-- 'cullaw.FewSays', WHERE WHAT IT READS IS OF BULK AT MOST 1048576: true; the input reads as it did. -/
def fewSaysUptoRow : OpenClaim := { program := "ytkliebhpdcjdgaa", sum := "5cd27e7dc2087ba5874f47f65a66ae2b0fadf68baee30f39a6edded0f7c55675", func := "cullender/cullaw.FewSays", spec := "fewSays", inPlace := ["slices.overlaps[cullender/api.Counter]", "internal/reflectlite.ValueOf", "internal/reflectlite.Swapper", "(internal/reflectlite.Value).Len"], unfollowed := true, recurses := true, apart := false, narrowed := true }
def FewSaysUptoSaid : Prop := fewSaysUptoRow.holds Try.pinned (OpenSpec.upto fewSaysSpec)

/-- 'cultop.TopRates', WHERE WHAT IT READS IS OF BULK AT MOST 1048576: true; the input reads as it did. -/
def topRatesUptoRow : OpenClaim := { program := "ytkliebhpdcjdgaa", sum := "5cd27e7dc2087ba5874f47f65a66ae2b0fadf68baee30f39a6edded0f7c55675", func := "cullender/cultop.TopRates", spec := "topRates", inPlace := ["internal/bytealg.abigen_runtime_cmpstring", "slices.overlaps[cullender/api.Rule]"], unfollowed := true, recurses := true, apart := false, narrowed := true }
def TopRatesUptoSaid : Prop := topRatesUptoRow.holds Try.pinned (OpenSpec.upto topRatesSpec)

end Rows
end Go.Proofs.Ytkliebhpdcjdgaa
