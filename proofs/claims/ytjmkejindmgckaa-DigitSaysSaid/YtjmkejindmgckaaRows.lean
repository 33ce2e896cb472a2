/-
  No cell of these rows narrows 'for every input' (looked for: loops, veiled, ifaces, maps, wideKeys, modest, calm, conditions, laid).
  DERIVED. THE GIVEN ROWS OF THIS SEAT. 8 by the template 'for every input the law returns true; each argument reads behind the call as it read before'; 0 by the template 'total and deterministic' (their statements: YtjmkejindmgckaaTotals.lean).
  GIVEN WITH THE SEED: the statements are not yours to turn. If you find one false, say at which input.
  Laid BY PROGRAM, IN A SANDBOX (cutbox-rows.mjs): the forced cells as the released guide's own fill.sh prints them over the translation 1c3a5743a862d60f… (all of the seat's roots in one cut). By AI agents, Wed Nov 11 2026. No macro, syntax, notation, axiom, sorry.
-/
import Derived.Test.YtjmkejindmgckaaChecked
import GoSem.Claim
import GoSem.ClaimJoined
import GoSem.ClaimMapViews
import Derived.JoinedTies
import Derived.KernelRfl
namespace Go.Proofs.Ytjmkejindmgckaa
/- THE CELL 'sum', in the pinned program and in every row, IS THE sha256 OF THE DUMP (.gsa) THAT YtjmkejindmgckaaProg.lean LOADS. Nothing in Lean hashes anything: it is a label: what it is worth is what the hold of that sum in a sandbox is worth. -/
noncomputable def Try.pinned : Pinned := { name := "ytjmkejindmgckaa", sum := "1c3a5743a862d60fd50da656cfea5d4a8ef67e591ca847b61fb15cc4fa71f0e8", checked := Try.checked }
namespace Rows
def none {H : Type} : Left H := { results := [], args := [] }

/-- 'cullaw.AliasSays': WHATEVER THE INPUT: true; the input reads as it did. -/
def aliasSaysSpec : ChangeSpec := { name := "aliasSays", fn := fun _ => fun
  | [d] => { results := [.lit (.bool true)], args := [d] }
  | _ => none }
def aliasSaysRow : OpenClaim := { program := "ytjmkejindmgckaa", sum := "1c3a5743a862d60fd50da656cfea5d4a8ef67e591ca847b61fb15cc4fa71f0e8", func := "cullender/cullaw.AliasSays", spec := "aliasSays", unfollowed := true, recurses := true, apart := false }
def AliasSaysSaid : Prop := aliasSaysRow.holds Try.pinned (OpenSpec.ofChange aliasSaysSpec)

/-- ITS FALSE NEIGHBOUR: 'it returns false'. Refute it at one input. -/
def aliasSaysWrong : ChangeSpec := { name := "aliasSays", fn := fun _ => fun
  | [d] => { results := [.lit (.bool false)], args := [d] }
  | _ => none }
def AliasSaysWrongFalsely : Prop := aliasSaysRow.holds Try.pinned (OpenSpec.ofChange aliasSaysWrong)

/-- 'cultop.TopEven': WHATEVER THE INPUT: true; the input reads as it did. -/
def topEvenSpec : ChangeSpec := { name := "topEven", fn := fun _ => fun
  | [d1, d2] => { results := [.lit (.bool true)], args := [d1, d2] }
  | _ => none }
def topEvenRow : OpenClaim := { program := "ytjmkejindmgckaa", sum := "1c3a5743a862d60fd50da656cfea5d4a8ef67e591ca847b61fb15cc4fa71f0e8", func := "cullender/cultop.TopEven", spec := "topEven", apart := false }
def TopEvenSaid : Prop := topEvenRow.holds Try.pinned (OpenSpec.ofChange topEvenSpec)

/-- ITS FALSE NEIGHBOUR: 'it returns false'. Refute it at one input. -/
def topEvenWrong : ChangeSpec := { name := "topEven", fn := fun _ => fun
  | [d1, d2] => { results := [.lit (.bool false)], args := [d1, d2] }
  | _ => none }
def TopEvenWrongFalsely : Prop := topEvenRow.holds Try.pinned (OpenSpec.ofChange topEvenWrong)

/-- 'cullaw.BloomSays': WHATEVER THE INPUT: true; the input reads as it did. -/
def bloomSaysSpec : ChangeSpec := { name := "bloomSays", fn := fun _ => fun
  | [d1, d2, d3] => { results := [.lit (.bool true)], args := [d1, d2, d3] }
  | _ => none }
def bloomSaysRow : OpenClaim := { program := "ytjmkejindmgckaa", sum := "1c3a5743a862d60fd50da656cfea5d4a8ef67e591ca847b61fb15cc4fa71f0e8", func := "cullender/cullaw.BloomSays", spec := "bloomSays", unfollowed := true, recurses := true, apart := false }
def BloomSaysSaid : Prop := bloomSaysRow.holds Try.pinned (OpenSpec.ofChange bloomSaysSpec)

/-- ITS FALSE NEIGHBOUR: 'it returns false'. Refute it at one input. -/
def bloomSaysWrong : ChangeSpec := { name := "bloomSays", fn := fun _ => fun
  | [d1, d2, d3] => { results := [.lit (.bool false)], args := [d1, d2, d3] }
  | _ => none }
def BloomSaysWrongFalsely : Prop := bloomSaysRow.holds Try.pinned (OpenSpec.ofChange bloomSaysWrong)

/-- 'cullaw.DigitSays': WHATEVER THE INPUT: true; the input reads as it did. -/
def digitSaysSpec : ChangeSpec := { name := "digitSays", fn := fun _ => fun
  | [d1, d2, d3] => { results := [.lit (.bool true)], args := [d1, d2, d3] }
  | _ => none }
def digitSaysRow : OpenClaim := { program := "ytjmkejindmgckaa", sum := "1c3a5743a862d60fd50da656cfea5d4a8ef67e591ca847b61fb15cc4fa71f0e8", func := "cullender/cullaw.DigitSays", spec := "digitSays", recurses := true, apart := false }
def DigitSaysSaid : Prop := digitSaysRow.holds Try.pinned (OpenSpec.ofChange digitSaysSpec)

/-- ITS FALSE NEIGHBOUR: 'it returns false'. Refute it at one input. -/
def digitSaysWrong : ChangeSpec := { name := "digitSays", fn := fun _ => fun
  | [d1, d2, d3] => { results := [.lit (.bool false)], args := [d1, d2, d3] }
  | _ => none }
def DigitSaysWrongFalsely : Prop := digitSaysRow.holds Try.pinned (OpenSpec.ofChange digitSaysWrong)

/-- 'cullaw.CumSays': WHATEVER THE INPUT: true; the input reads as it did. -/
def cumSaysSpec : ChangeSpec := { name := "cumSays", fn := fun _ => fun
  | [d1, d2, d3, d4] => { results := [.lit (.bool true)], args := [d1, d2, d3, d4] }
  | _ => none }
def cumSaysRow : OpenClaim := { program := "ytjmkejindmgckaa", sum := "1c3a5743a862d60fd50da656cfea5d4a8ef67e591ca847b61fb15cc4fa71f0e8", func := "cullender/cullaw.CumSays", spec := "cumSays", unfollowed := true, recurses := true, apart := false }
def CumSaysSaid : Prop := cumSaysRow.holds Try.pinned (OpenSpec.ofChange cumSaysSpec)

/-- ITS FALSE NEIGHBOUR: 'it returns false'. Refute it at one input. -/
def cumSaysWrong : ChangeSpec := { name := "cumSays", fn := fun _ => fun
  | [d1, d2, d3, d4] => { results := [.lit (.bool false)], args := [d1, d2, d3, d4] }
  | _ => none }
def CumSaysWrongFalsely : Prop := cumSaysRow.holds Try.pinned (OpenSpec.ofChange cumSaysWrong)

/-- 'cullaw.TableSays': WHATEVER THE INPUT: true; the input reads as it did. -/
def tableSaysSpec : ChangeSpec := { name := "tableSays", fn := fun _ => fun
  | [d1, d2, d3, d4] => { results := [.lit (.bool true)], args := [d1, d2, d3, d4] }
  | _ => none }
def tableSaysRow : OpenClaim := { program := "ytjmkejindmgckaa", sum := "1c3a5743a862d60fd50da656cfea5d4a8ef67e591ca847b61fb15cc4fa71f0e8", func := "cullender/cullaw.TableSays", spec := "tableSays", unfollowed := true, recurses := true, apart := false }
def TableSaysSaid : Prop := tableSaysRow.holds Try.pinned (OpenSpec.ofChange tableSaysSpec)

/-- ITS FALSE NEIGHBOUR: 'it returns false'. Refute it at one input. -/
def tableSaysWrong : ChangeSpec := { name := "tableSays", fn := fun _ => fun
  | [d1, d2, d3, d4] => { results := [.lit (.bool false)], args := [d1, d2, d3, d4] }
  | _ => none }
def TableSaysWrongFalsely : Prop := tableSaysRow.holds Try.pinned (OpenSpec.ofChange tableSaysWrong)

/-- 'cullaw.GateSays': WHATEVER THE INPUT: true; the input reads as it did. -/
def gateSaysSpec : ChangeSpec := { name := "gateSays", fn := fun _ => fun
  | [d1, d2, d3, d4, d5] => { results := [.lit (.bool true)], args := [d1, d2, d3, d4, d5] }
  | _ => none }
def gateSaysRow : OpenClaim := { program := "ytjmkejindmgckaa", sum := "1c3a5743a862d60fd50da656cfea5d4a8ef67e591ca847b61fb15cc4fa71f0e8", func := "cullender/cullaw.GateSays", spec := "gateSays", named := ["math/bits.divideError", "math/bits.overflowError"], apart := false }
def GateSaysSaid : Prop := gateSaysRow.holds Try.pinned (OpenSpec.ofChange gateSaysSpec)

/-- ITS FALSE NEIGHBOUR: 'it returns false'. Refute it at one input. -/
def gateSaysWrong : ChangeSpec := { name := "gateSays", fn := fun _ => fun
  | [d1, d2, d3, d4, d5] => { results := [.lit (.bool false)], args := [d1, d2, d3, d4, d5] }
  | _ => none }
def GateSaysWrongFalsely : Prop := gateSaysRow.holds Try.pinned (OpenSpec.ofChange gateSaysWrong)

/-- 'cullaw.ShareSays': WHATEVER THE INPUT: true; the input reads as it did. -/
def shareSaysSpec : ChangeSpec := { name := "shareSays", fn := fun _ => fun
  | [d1, d2] => { results := [.lit (.bool true)], args := [d1, d2] }
  | _ => none }
def shareSaysRow : OpenClaim := { program := "ytjmkejindmgckaa", sum := "1c3a5743a862d60fd50da656cfea5d4a8ef67e591ca847b61fb15cc4fa71f0e8", func := "cullender/cullaw.ShareSays", spec := "shareSays", unfollowed := true, recurses := true, apart := false }
def ShareSaysSaid : Prop := shareSaysRow.holds Try.pinned (OpenSpec.ofChange shareSaysSpec)

/-- ITS FALSE NEIGHBOUR: 'it returns false'. Refute it at one input. -/
def shareSaysWrong : ChangeSpec := { name := "shareSays", fn := fun _ => fun
  | [d1, d2] => { results := [.lit (.bool false)], args := [d1, d2] }
  | _ => none }
def ShareSaysWrongFalsely : Prop := shareSaysRow.holds Try.pinned (OpenSpec.ofChange shareSaysWrong)

/- THE SECOND FORM. 'bulk': how many values and letters a reading holds, each counted each time it is reached (what is shared counts as often as it is met; a slice's spare places count too). A statement '..UptoSaid' is the law's where the arguments, and the package variables that the reading takes, are together of bulk at most 1048576: NARROWER than '..Said'. Prove '..Said' where nothing that the law and all that it calls make is longer than what came in: it says more and counts as full. Else prove '..UptoSaid'. A law counts once. -/
mutual
def uptoBulk {H : Type} : DataW H → Nat
  | .lit (.string bytes) => bytes.length + 1
  | .lit _ => 1
  | .nil => 1
  | .ptr d => uptoBulk d + 1
  | .slice elems spare => uptoBulkAll elems + uptoBulkAll spare + 1
  | .agg parts => uptoBulkAll parts + 1
  | .iface _ d => uptoBulk d + 1
  | .map entries => uptoBulkEntries entries + 1
  | .held _ => 1
def uptoBulkAll {H : Type} : List (DataW H) → Nat
  | [] => 0
  | d :: r => uptoBulk d + uptoBulkAll r
def uptoBulkEntries {H : Type} : List (Lit × DataW H) → Nat
  | [] => 0
  | x :: r => uptoBulkEntry x + uptoBulkEntries r
def uptoBulkEntry {H : Type} : Lit × DataW H → Nat
  | (.string bytes, d) => bytes.length + uptoBulk d + 1
  | (_, d) => uptoBulk d + 1
 end
def uptoSmall : (H : Type) → List (DataW H) → Bool := fun _ ds => decide (uptoBulkAll ds ≤ 1048576)
def OpenSpec.upto (s : _root_.Go.ChangeSpec) : _root_.Go.OpenSpec := { _root_.Go.OpenSpec.ofChange s with cond := some uptoSmall }

/-- 'cullaw.AliasSays', WHERE WHAT IT READS IS OF BULK AT MOST 1048576: true; the input reads as it did. -/
def aliasSaysUptoRow : OpenClaim := { program := "ytjmkejindmgckaa", sum := "1c3a5743a862d60fd50da656cfea5d4a8ef67e591ca847b61fb15cc4fa71f0e8", func := "cullender/cullaw.AliasSays", spec := "aliasSays", unfollowed := true, recurses := true, apart := false, narrowed := true }
def AliasSaysUptoSaid : Prop := aliasSaysUptoRow.holds Try.pinned (OpenSpec.upto aliasSaysSpec)

/-- 'cultop.TopEven', WHERE WHAT IT READS IS OF BULK AT MOST 1048576: true; the input reads as it did. -/
def topEvenUptoRow : OpenClaim := { program := "ytjmkejindmgckaa", sum := "1c3a5743a862d60fd50da656cfea5d4a8ef67e591ca847b61fb15cc4fa71f0e8", func := "cullender/cultop.TopEven", spec := "topEven", apart := false, narrowed := true }
def TopEvenUptoSaid : Prop := topEvenUptoRow.holds Try.pinned (OpenSpec.upto topEvenSpec)

/-- 'cullaw.BloomSays', WHERE WHAT IT READS IS OF BULK AT MOST 1048576: true; the input reads as it did. -/
def bloomSaysUptoRow : OpenClaim := { program := "ytjmkejindmgckaa", sum := "1c3a5743a862d60fd50da656cfea5d4a8ef67e591ca847b61fb15cc4fa71f0e8", func := "cullender/cullaw.BloomSays", spec := "bloomSays", unfollowed := true, recurses := true, apart := false, narrowed := true }
def BloomSaysUptoSaid : Prop := bloomSaysUptoRow.holds Try.pinned (OpenSpec.upto bloomSaysSpec)

/-- 'cullaw.DigitSays', WHERE WHAT IT READS IS OF BULK AT MOST 1048576: true; the input reads as it did. -/
def digitSaysUptoRow : OpenClaim := { program := "ytjmkejindmgckaa", sum := "1c3a5743a862d60fd50da656cfea5d4a8ef67e591ca847b61fb15cc4fa71f0e8", func := "cullender/cullaw.DigitSays", spec := "digitSays", recurses := true, apart := false, narrowed := true }
def DigitSaysUptoSaid : Prop := digitSaysUptoRow.holds Try.pinned (OpenSpec.upto digitSaysSpec)

/-- 'cullaw.CumSays', WHERE WHAT IT READS IS OF BULK AT MOST 1048576: true; the input reads as it did. -/
def cumSaysUptoRow : OpenClaim := { program := "ytjmkejindmgckaa", sum := "1c3a5743a862d60fd50da656cfea5d4a8ef67e591ca847b61fb15cc4fa71f0e8", func := "cullender/cullaw.CumSays", spec := "cumSays", unfollowed := true, recurses := true, apart := false, narrowed := true }
def CumSaysUptoSaid : Prop := cumSaysUptoRow.holds Try.pinned (OpenSpec.upto cumSaysSpec)

/-- 'cullaw.TableSays', WHERE WHAT IT READS IS OF BULK AT MOST 1048576: true; the input reads as it did. -/
def tableSaysUptoRow : OpenClaim := { program := "ytjmkejindmgckaa", sum := "1c3a5743a862d60fd50da656cfea5d4a8ef67e591ca847b61fb15cc4fa71f0e8", func := "cullender/cullaw.TableSays", spec := "tableSays", unfollowed := true, recurses := true, apart := false, narrowed := true }
def TableSaysUptoSaid : Prop := tableSaysUptoRow.holds Try.pinned (OpenSpec.upto tableSaysSpec)

/-- 'cullaw.GateSays', WHERE WHAT IT READS IS OF BULK AT MOST 1048576: true; the input reads as it did. -/
def gateSaysUptoRow : OpenClaim := { program := "ytjmkejindmgckaa", sum := "1c3a5743a862d60fd50da656cfea5d4a8ef67e591ca847b61fb15cc4fa71f0e8", func := "cullender/cullaw.GateSays", spec := "gateSays", named := ["math/bits.divideError", "math/bits.overflowError"], apart := false, narrowed := true }
def GateSaysUptoSaid : Prop := gateSaysUptoRow.holds Try.pinned (OpenSpec.upto gateSaysSpec)

/-- 'cullaw.ShareSays', WHERE WHAT IT READS IS OF BULK AT MOST 1048576: true; the input reads as it did. -/
def shareSaysUptoRow : OpenClaim := { program := "ytjmkejindmgckaa", sum := "1c3a5743a862d60fd50da656cfea5d4a8ef67e591ca847b61fb15cc4fa71f0e8", func := "cullender/cullaw.ShareSays", spec := "shareSays", unfollowed := true, recurses := true, apart := false, narrowed := true }
def ShareSaysUptoSaid : Prop := shareSaysUptoRow.holds Try.pinned (OpenSpec.upto shareSaysSpec)

end Rows
end Go.Proofs.Ytjmkejindmgckaa
