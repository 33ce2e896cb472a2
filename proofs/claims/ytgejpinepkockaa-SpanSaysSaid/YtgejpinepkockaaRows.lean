/-
  No cell of these rows narrows 'for every input' (looked for: loops, veiled, ifaces, maps, wideKeys, modest, calm, conditions, laid).
  DERIVED. THE GIVEN ROWS OF THIS SEAT. 12 by the template 'for every input the law returns true; each argument reads behind the call as it read before'; 0 by the template 'total and deterministic' (their statements: YtgejpinepkockaaTotals.lean).
  GIVEN WITH THE SEED: the statements are not yours to turn. If you find one false, say at which input.
  Laid BY PROGRAM, IN A SANDBOX (cutbox-rows.mjs): the forced cells as the released guide's own fill.sh prints them over the translation 41d152bc4d7d9fe1… (all of the seat's roots in one cut). By AI agents, Wed Nov 11 2026. No macro, syntax, notation, axiom, sorry.
-/
import Derived.Test.YtgejpinepkockaaChecked
import GoSem.Claim
import GoSem.ClaimJoined
import GoSem.ClaimMapViews
import Derived.JoinedTies
import Derived.KernelRfl
namespace Go.Proofs.Ytgejpinepkockaa
/- THE CELL 'sum', in the pinned program and in every row, IS THE sha256 OF THE DUMP (.gsa) THAT YtgejpinepkockaaProg.lean LOADS. Nothing in Lean hashes anything: it is a label: what it is worth is what the hold of that sum in a sandbox is worth. -/
noncomputable def Try.pinned : Pinned := { name := "ytgejpinepkockaa", sum := "41d152bc4d7d9fe13fa5f4c9ab13b6c5004abafad6f27600ac569a7df5808dd7", checked := Try.checked }
namespace Rows
def none {H : Type} : Left H := { results := [], args := [] }

/-- 'cullaw.Names': WHATEVER THE INPUT: true; the input reads as it did. -/
def namesSpec : ChangeSpec := { name := "names", fn := fun _ => fun
  | [] => { results := [.lit (.bool true)], args := [] }
  | _ => none }
def namesRow : OpenClaim := { program := "ytgejpinepkockaa", sum := "41d152bc4d7d9fe13fa5f4c9ab13b6c5004abafad6f27600ac569a7df5808dd7", func := "cullender/cullaw.Names", spec := "names", apart := false }
def NamesSaid : Prop := namesRow.holds Try.pinned (OpenSpec.ofChange namesSpec)

/-- ITS FALSE NEIGHBOUR: 'it returns false'. Refute it at one input. -/
def namesWrong : ChangeSpec := { name := "names", fn := fun _ => fun
  | [] => { results := [.lit (.bool false)], args := [] }
  | _ => none }
def NamesWrongFalsely : Prop := namesRow.holds Try.pinned (OpenSpec.ofChange namesWrong)

/-- 'cullaw.DigitDeals': WHATEVER THE INPUT: true; the input reads as it did. -/
def digitDealsSpec : ChangeSpec := { name := "digitDeals", fn := fun _ => fun
  | [d1, d2] => { results := [.lit (.bool true)], args := [d1, d2] }
  | _ => none }
def digitDealsRow : OpenClaim := { program := "ytgejpinepkockaa", sum := "41d152bc4d7d9fe13fa5f4c9ab13b6c5004abafad6f27600ac569a7df5808dd7", func := "cullender/cullaw.DigitDeals", spec := "digitDeals", recurses := true, apart := false }
def DigitDealsSaid : Prop := digitDealsRow.holds Try.pinned (OpenSpec.ofChange digitDealsSpec)

/-- ITS FALSE NEIGHBOUR: 'it returns false'. Refute it at one input. -/
def digitDealsWrong : ChangeSpec := { name := "digitDeals", fn := fun _ => fun
  | [d1, d2] => { results := [.lit (.bool false)], args := [d1, d2] }
  | _ => none }
def DigitDealsWrongFalsely : Prop := digitDealsRow.holds Try.pinned (OpenSpec.ofChange digitDealsWrong)

/-- 'cullaw.PondSays': WHATEVER THE INPUT: true; the input reads as it did. -/
def pondSaysSpec : ChangeSpec := { name := "pondSays", fn := fun _ => fun
  | [d1, d2, d3] => { results := [.lit (.bool true)], args := [d1, d2, d3] }
  | _ => none }
def pondSaysRow : OpenClaim := { program := "ytgejpinepkockaa", sum := "41d152bc4d7d9fe13fa5f4c9ab13b6c5004abafad6f27600ac569a7df5808dd7", func := "cullender/cullaw.PondSays", spec := "pondSays", apart := false }
def PondSaysSaid : Prop := pondSaysRow.holds Try.pinned (OpenSpec.ofChange pondSaysSpec)

/-- ITS FALSE NEIGHBOUR: 'it returns false'. Refute it at one input. -/
def pondSaysWrong : ChangeSpec := { name := "pondSays", fn := fun _ => fun
  | [d1, d2, d3] => { results := [.lit (.bool false)], args := [d1, d2, d3] }
  | _ => none }
def PondSaysWrongFalsely : Prop := pondSaysRow.holds Try.pinned (OpenSpec.ofChange pondSaysWrong)

/-- 'cullaw.AliasTells': WHATEVER THE INPUT: true; the input reads as it did. -/
def aliasTellsSpec : ChangeSpec := { name := "aliasTells", fn := fun _ => fun
  | [d1, d2, d3] => { results := [.lit (.bool true)], args := [d1, d2, d3] }
  | _ => none }
def aliasTellsRow : OpenClaim := { program := "ytgejpinepkockaa", sum := "41d152bc4d7d9fe13fa5f4c9ab13b6c5004abafad6f27600ac569a7df5808dd7", func := "cullender/cullaw.AliasTells", spec := "aliasTells", apart := false }
def AliasTellsSaid : Prop := aliasTellsRow.holds Try.pinned (OpenSpec.ofChange aliasTellsSpec)

/-- ITS FALSE NEIGHBOUR: 'it returns false'. Refute it at one input. -/
def aliasTellsWrong : ChangeSpec := { name := "aliasTells", fn := fun _ => fun
  | [d1, d2, d3] => { results := [.lit (.bool false)], args := [d1, d2, d3] }
  | _ => none }
def AliasTellsWrongFalsely : Prop := aliasTellsRow.holds Try.pinned (OpenSpec.ofChange aliasTellsWrong)

/-- 'cullaw.EstSays': WHATEVER THE INPUT: true; the input reads as it did. -/
def estSaysSpec : ChangeSpec := { name := "estSays", fn := fun _ => fun
  | [d1, d2, d3] => { results := [.lit (.bool true)], args := [d1, d2, d3] }
  | _ => none }
def estSaysRow : OpenClaim := { program := "ytgejpinepkockaa", sum := "41d152bc4d7d9fe13fa5f4c9ab13b6c5004abafad6f27600ac569a7df5808dd7", func := "cullender/cullaw.EstSays", spec := "estSays", unfollowed := true, recurses := true, apart := false }
def EstSaysSaid : Prop := estSaysRow.holds Try.pinned (OpenSpec.ofChange estSaysSpec)

/-- ITS FALSE NEIGHBOUR: 'it returns false'. Refute it at one input. -/
def estSaysWrong : ChangeSpec := { name := "estSays", fn := fun _ => fun
  | [d1, d2, d3] => { results := [.lit (.bool false)], args := [d1, d2, d3] }
  | _ => none }
def EstSaysWrongFalsely : Prop := estSaysRow.holds Try.pinned (OpenSpec.ofChange estSaysWrong)

/-- 'cullaw.AliasSays': WHATEVER THE INPUT: true; the input reads as it did. -/
def aliasSaysSpec : ChangeSpec := { name := "aliasSays", fn := fun _ => fun
  | [d] => { results := [.lit (.bool true)], args := [d] }
  | _ => none }
def aliasSaysRow : OpenClaim := { program := "ytgejpinepkockaa", sum := "41d152bc4d7d9fe13fa5f4c9ab13b6c5004abafad6f27600ac569a7df5808dd7", func := "cullender/cullaw.AliasSays", spec := "aliasSays", unfollowed := true, recurses := true, apart := false }
def AliasSaysSaid : Prop := aliasSaysRow.holds Try.pinned (OpenSpec.ofChange aliasSaysSpec)

/-- ITS FALSE NEIGHBOUR: 'it returns false'. Refute it at one input. -/
def aliasSaysWrong : ChangeSpec := { name := "aliasSays", fn := fun _ => fun
  | [d] => { results := [.lit (.bool false)], args := [d] }
  | _ => none }
def AliasSaysWrongFalsely : Prop := aliasSaysRow.holds Try.pinned (OpenSpec.ofChange aliasSaysWrong)

/-- 'cullaw.CombSays': WHATEVER THE INPUT: true; the input reads as it did. -/
def combSaysSpec : ChangeSpec := { name := "combSays", fn := fun _ => fun
  | [d1, d2, d3, d4] => { results := [.lit (.bool true)], args := [d1, d2, d3, d4] }
  | _ => none }
def combSaysRow : OpenClaim := { program := "ytgejpinepkockaa", sum := "41d152bc4d7d9fe13fa5f4c9ab13b6c5004abafad6f27600ac569a7df5808dd7", func := "cullender/cullaw.CombSays", spec := "combSays", recurses := true, apart := false }
def CombSaysSaid : Prop := combSaysRow.holds Try.pinned (OpenSpec.ofChange combSaysSpec)

/-- ITS FALSE NEIGHBOUR: 'it returns false'. Refute it at one input. -/
def combSaysWrong : ChangeSpec := { name := "combSays", fn := fun _ => fun
  | [d1, d2, d3, d4] => { results := [.lit (.bool false)], args := [d1, d2, d3, d4] }
  | _ => none }
def CombSaysWrongFalsely : Prop := combSaysRow.holds Try.pinned (OpenSpec.ofChange combSaysWrong)

/-- 'cultop.TopEven': WHATEVER THE INPUT: true; the input reads as it did. -/
def topEvenSpec : ChangeSpec := { name := "topEven", fn := fun _ => fun
  | [d1, d2] => { results := [.lit (.bool true)], args := [d1, d2] }
  | _ => none }
def topEvenRow : OpenClaim := { program := "ytgejpinepkockaa", sum := "41d152bc4d7d9fe13fa5f4c9ab13b6c5004abafad6f27600ac569a7df5808dd7", func := "cullender/cultop.TopEven", spec := "topEven", apart := false }
def TopEvenSaid : Prop := topEvenRow.holds Try.pinned (OpenSpec.ofChange topEvenSpec)

/-- ITS FALSE NEIGHBOUR: 'it returns false'. Refute it at one input. -/
def topEvenWrong : ChangeSpec := { name := "topEven", fn := fun _ => fun
  | [d1, d2] => { results := [.lit (.bool false)], args := [d1, d2] }
  | _ => none }
def TopEvenWrongFalsely : Prop := topEvenRow.holds Try.pinned (OpenSpec.ofChange topEvenWrong)

/-- 'cullaw.MixSays': WHATEVER THE INPUT: true; the input reads as it did. -/
def mixSaysSpec : ChangeSpec := { name := "mixSays", fn := fun _ => fun
  | [d1, d2] => { results := [.lit (.bool true)], args := [d1, d2] }
  | _ => none }
def mixSaysRow : OpenClaim := { program := "ytgejpinepkockaa", sum := "41d152bc4d7d9fe13fa5f4c9ab13b6c5004abafad6f27600ac569a7df5808dd7", func := "cullender/cullaw.MixSays", spec := "mixSays", recurses := true, apart := false }
def MixSaysSaid : Prop := mixSaysRow.holds Try.pinned (OpenSpec.ofChange mixSaysSpec)

/-- ITS FALSE NEIGHBOUR: 'it returns false'. Refute it at one input. -/
def mixSaysWrong : ChangeSpec := { name := "mixSays", fn := fun _ => fun
  | [d1, d2] => { results := [.lit (.bool false)], args := [d1, d2] }
  | _ => none }
def MixSaysWrongFalsely : Prop := mixSaysRow.holds Try.pinned (OpenSpec.ofChange mixSaysWrong)

/-- 'cullaw.SpanSays': WHATEVER THE INPUT: true; the input reads as it did. -/
def spanSaysSpec : ChangeSpec := { name := "spanSays", fn := fun _ => fun
  | [d1, d2, d3] => { results := [.lit (.bool true)], args := [d1, d2, d3] }
  | _ => none }
def spanSaysRow : OpenClaim := { program := "ytgejpinepkockaa", sum := "41d152bc4d7d9fe13fa5f4c9ab13b6c5004abafad6f27600ac569a7df5808dd7", func := "cullender/cullaw.SpanSays", spec := "spanSays", apart := false }
def SpanSaysSaid : Prop := spanSaysRow.holds Try.pinned (OpenSpec.ofChange spanSaysSpec)

/-- ITS FALSE NEIGHBOUR: 'it returns false'. Refute it at one input. -/
def spanSaysWrong : ChangeSpec := { name := "spanSays", fn := fun _ => fun
  | [d1, d2, d3] => { results := [.lit (.bool false)], args := [d1, d2, d3] }
  | _ => none }
def SpanSaysWrongFalsely : Prop := spanSaysRow.holds Try.pinned (OpenSpec.ofChange spanSaysWrong)

/-- 'cultop.TopRates': WHATEVER THE INPUT: true; the input reads as it did. -/
def topRatesSpec : ChangeSpec := { name := "topRates", fn := fun _ => fun
  | [d1, d2] => { results := [.lit (.bool true)], args := [d1, d2] }
  | _ => none }
def topRatesRow : OpenClaim := { program := "ytgejpinepkockaa", sum := "41d152bc4d7d9fe13fa5f4c9ab13b6c5004abafad6f27600ac569a7df5808dd7", func := "cullender/cultop.TopRates", spec := "topRates", inPlace := ["internal/bytealg.abigen_runtime_cmpstring", "slices.overlaps[cullender/api.Rule]"], unfollowed := true, recurses := true, apart := false }
def TopRatesSaid : Prop := topRatesRow.holds Try.pinned (OpenSpec.ofChange topRatesSpec)

/-- ITS FALSE NEIGHBOUR: 'it returns false'. Refute it at one input. -/
def topRatesWrong : ChangeSpec := { name := "topRates", fn := fun _ => fun
  | [d1, d2] => { results := [.lit (.bool false)], args := [d1, d2] }
  | _ => none }
def TopRatesWrongFalsely : Prop := topRatesRow.holds Try.pinned (OpenSpec.ofChange topRatesWrong)

/-- 'cullaw.BloomSays': WHATEVER THE INPUT: true; the input reads as it did. -/
def bloomSaysSpec : ChangeSpec := { name := "bloomSays", fn := fun _ => fun
  | [d1, d2, d3] => { results := [.lit (.bool true)], args := [d1, d2, d3] }
  | _ => none }
def bloomSaysRow : OpenClaim := { program := "ytgejpinepkockaa", sum := "41d152bc4d7d9fe13fa5f4c9ab13b6c5004abafad6f27600ac569a7df5808dd7", func := "cullender/cullaw.BloomSays", spec := "bloomSays", unfollowed := true, recurses := true, apart := false }
def BloomSaysSaid : Prop := bloomSaysRow.holds Try.pinned (OpenSpec.ofChange bloomSaysSpec)

/-- ITS FALSE NEIGHBOUR: 'it returns false'. Refute it at one input. -/
def bloomSaysWrong : ChangeSpec := { name := "bloomSays", fn := fun _ => fun
  | [d1, d2, d3] => { results := [.lit (.bool false)], args := [d1, d2, d3] }
  | _ => none }
def BloomSaysWrongFalsely : Prop := bloomSaysRow.holds Try.pinned (OpenSpec.ofChange bloomSaysWrong)

/- THE SECOND FORM. 'bulk': how many values and letters a reading holds, each counted each time it is reached (what is shared counts as often as it is met; a slice's spare places count too). A statement '..UptoSaid' is the law's where the arguments, and the package variables that the reading takes, are together of bulk at most 1048576: NARROWER than '..Said'. Prove '..Said' where nothing that the law and all that it calls make is longer than what came in: it says more and counts as full. Else prove '..UptoSaid'. A law counts once. -/
mutual
def uptoBulk {H : Type} : DataW H → Nat
  | .lit (.string bytes) => bytes.length + 1
  | .lit _ => 1
  | .nil => 1
  | .ptr d => uptoBulk d + 1
  | .slice elems spare => uptoBulkAll elems + uptoBulkAll spare + 1
  | .agg parts => uptoBulkAll parts + 1
  | .iface _ d => uptoBulk d + 1
  | .map entries => uptoBulkEntries entries + 1
  | .held _ => 1
def uptoBulkAll {H : Type} : List (DataW H) → Nat
  | [] => 0
  | d :: r => uptoBulk d + uptoBulkAll r
def uptoBulkEntries {H : Type} : List (Lit × DataW H) → Nat
  | [] => 0
  | x :: r => uptoBulkEntry x + uptoBulkEntries r
def uptoBulkEntry {H : Type} : Lit × DataW H → Nat
  | (.string bytes, d) => bytes.length + uptoBulk d + 1
  | (_, d) => uptoBulk d + 1
 end
def uptoSmall : (H : Type) → List (DataW H) → Bool := fun _ ds => decide (uptoBulkAll ds ≤ 1048576)
def OpenSpec.upto (s : _root_.Go.ChangeSpec) : _root_.Go.OpenSpec := { _root_.Go.OpenSpec.ofChange s with cond := some uptoSmall }

/-- 'cullaw.Names', WHERE WHAT IT READS IS OF BULK AT MOST 1048576: true; the input reads as it did. -/
def namesUptoRow : OpenClaim := { program := "ytgejpinepkockaa", sum := "41d152bc4d7d9fe13fa5f4c9ab13b6c5004abafad6f27600ac569a7df5808dd7", func := "cullender/cullaw.Names", spec := "names", apart := false, narrowed := true }
def NamesUptoSaid : Prop := namesUptoRow.holds Try.pinned (OpenSpec.upto namesSpec)

/-- 'cullaw.DigitDeals', WHERE WHAT IT READS IS OF BULK AT MOST 1048576: true; the input reads as it did. -/
def digitDealsUptoRow : OpenClaim := { program := "ytgejpinepkockaa", sum := "41d152bc4d7d9fe13fa5f4c9ab13b6c5004abafad6f27600ac569a7df5808dd7", func := "cullender/cullaw.DigitDeals", spec := "digitDeals", recurses := true, apart := false, narrowed := true }
def DigitDealsUptoSaid : Prop := digitDealsUptoRow.holds Try.pinned (OpenSpec.upto digitDealsSpec)

/-- 'cullaw.PondSays', WHERE WHAT IT READS IS OF BULK AT MOST 1048576: true; the input reads as it did. -/
def pondSaysUptoRow : OpenClaim := { program := "ytgejpinepkockaa", sum := "41d152bc4d7d9fe13fa5f4c9ab13b6c5004abafad6f27600ac569a7df5808dd7", func := "cullender/cullaw.PondSays", spec := "pondSays", apart := false, narrowed := true }
def PondSaysUptoSaid : Prop := pondSaysUptoRow.holds Try.pinned (OpenSpec.upto pondSaysSpec)

/-- 'cullaw.AliasTells', WHERE WHAT IT READS IS OF BULK AT MOST 1048576: true; the input reads as it did. -/
def aliasTellsUptoRow : OpenClaim := { program := "ytgejpinepkockaa", sum := "41d152bc4d7d9fe13fa5f4c9ab13b6c5004abafad6f27600ac569a7df5808dd7", func := "cullender/cullaw.AliasTells", spec := "aliasTells", apart := false, narrowed := true }
def AliasTellsUptoSaid : Prop := aliasTellsUptoRow.holds Try.pinned (OpenSpec.upto aliasTellsSpec)

/-- 'cullaw.EstSays', WHERE WHAT IT READS IS OF BULK AT MOST 1048576: true; the input reads as it did. -/
def estSaysUptoRow : OpenClaim := { program := "ytgejpinepkockaa", sum := "41d152bc4d7d9fe13fa5f4c9ab13b6c5004abafad6f27600ac569a7df5808dd7", func := "cullender/cullaw.EstSays", spec := "estSays", unfollowed := true, recurses := true, apart := false, narrowed := true }
def EstSaysUptoSaid : Prop := estSaysUptoRow.holds Try.pinned (OpenSpec.upto estSaysSpec)

/-- 'cullaw.AliasSays', WHERE WHAT IT READS IS OF BULK AT MOST 1048576: true; the input reads as it did. -/
def aliasSaysUptoRow : OpenClaim := { program := "ytgejpinepkockaa", sum := "41d152bc4d7d9fe13fa5f4c9ab13b6c5004abafad6f27600ac569a7df5808dd7", func := "cullender/cullaw.AliasSays", spec := "aliasSays", unfollowed := true, recurses := true, apart := false, narrowed := true }
def AliasSaysUptoSaid : Prop := aliasSaysUptoRow.holds Try.pinned (OpenSpec.upto aliasSaysSpec)

/-- 'cullaw.CombSays', WHERE WHAT IT READS IS OF BULK AT MOST 1048576: true; the input reads as it did. -/
def combSaysUptoRow : OpenClaim := { program := "ytgejpinepkockaa", sum := "41d152bc4d7d9fe13fa5f4c9ab13b6c5004abafad6f27600ac569a7df5808dd7", func := "cullender/cullaw.CombSays", spec := "combSays", recurses := true, apart := false, narrowed := true }
def CombSaysUptoSaid : Prop := combSaysUptoRow.holds Try.pinned (OpenSpec.upto combSaysSpec)

/-- 'cultop.TopEven', WHERE WHAT IT READS IS OF BULK AT MOST 1048576: true; the input reads as it did. -/
def topEvenUptoRow : OpenClaim := { program := "ytgejpinepkockaa", sum := "41d152bc4d7d9fe13fa5f4c9ab13b6c5004abafad6f27600ac569a7df5808dd7", func := "cullender/cultop.TopEven", spec := "topEven", apart := false, narrowed := true }
def TopEvenUptoSaid : Prop := topEvenUptoRow.holds Try.pinned (OpenSpec.upto topEvenSpec)

/-- 'cullaw.MixSays', WHERE WHAT IT READS IS OF BULK AT MOST 1048576: true; the input reads as it did. -/
def mixSaysUptoRow : OpenClaim := { program := "ytgejpinepkockaa", sum := "41d152bc4d7d9fe13fa5f4c9ab13b6c5004abafad6f27600ac569a7df5808dd7", func := "cullender/cullaw.MixSays", spec := "mixSays", recurses := true, apart := false, narrowed := true }
def MixSaysUptoSaid : Prop := mixSaysUptoRow.holds Try.pinned (OpenSpec.upto mixSaysSpec)

/-- 'cullaw.SpanSays', WHERE WHAT IT READS IS OF BULK AT MOST 1048576: true; the input reads as it did. -/
def spanSaysUptoRow : OpenClaim := { program := "ytgejpinepkockaa", sum := "41d152bc4d7d9fe13fa5f4c9ab13b6c5004abafad6f27600ac569a7df5808dd7", func := "cullender/cullaw.SpanSays", spec := "spanSays", apart := false, narrowed := true }
def SpanSaysUptoSaid : Prop := spanSaysUptoRow.holds Try.pinned (OpenSpec.upto spanSaysSpec)

/-- 'cultop.TopRates', WHERE WHAT IT READS IS OF BULK AT MOST 1048576: true; the input reads as it did. -/
def topRatesUptoRow : OpenClaim := { program := "ytgejpinepkockaa", sum := "41d152bc4d7d9fe13fa5f4c9ab13b6c5004abafad6f27600ac569a7df5808dd7", func := "cullender/cultop.TopRates", spec := "topRates", inPlace := ["internal/bytealg.abigen_runtime_cmpstring", "slices.overlaps[cullender/api.Rule]"], unfollowed := true, recurses := true, apart := false, narrowed := true }
def TopRatesUptoSaid : Prop := topRatesUptoRow.holds Try.pinned (OpenSpec.upto topRatesSpec)

/-- 'cullaw.BloomSays', WHERE WHAT IT READS IS OF BULK AT MOST 1048576: true; the input reads as it did. -/
def bloomSaysUptoRow : OpenClaim := { program := "ytgejpinepkockaa", sum := "41d152bc4d7d9fe13fa5f4c9ab13b6c5004abafad6f27600ac569a7df5808dd7", func := "cullender/cullaw.BloomSays", spec := "bloomSays", unfollowed := true, recurses := true, apart := false, narrowed := true }
def BloomSaysUptoSaid : Prop := bloomSaysUptoRow.holds Try.pinned (OpenSpec.upto bloomSaysSpec)

end Rows
end Go.Proofs.Ytgejpinepkockaa
