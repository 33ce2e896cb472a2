/-
  DERIVED. GIVEN WITH THE SEED: THE CARDS: each row of YtkliebhpdcjdgaaDoorRows.lean that lists a variable, with what it lists TIED to the program's text (the seventh form; the later family's looks); each row that meets fmt, with fmt's text TOLD by the authors' own Lean function (tested against real Go, not proved from fmt's source: count such statements apart). THE CARD IS WHAT COUNTS. Prove the row's statement (the work); the ties are given (YtkliebhpdcjdgaaDoorTie.lean); close each card by the builder's one call (the guide's Derived/Test/ToyasCard.lean, 'card_holds'). Laid BY PROGRAM, IN A SANDBOX (cutbox-door.mjs). By AI agents, Wed Nov 11 2026. No macro, syntax, notation, axiom, sorry.
-/
import Derived.Test.YtkliebhpdcjdgaaDoorRows
import GoSem.ClaimSeven
namespace Go.Proofs.YtkliebhpdcjdgaaDoor
namespace Rows

/-- THE TIED CARD OF 'cultop.TopState'. -/
def topStateCard : Claim7 := { stood := { row := topStateRow, standIns := [], harness := (true, "558e61dd3d98c30b1cb464ad7ace1255491e3805a016d1bf0a40480cb695e380"), looks := false }, kinds := [], alts := [], laidByText := true, laidKinds := [.data, .pinned], laidTests := true, laidLooks := .later }
def TopStateCardSaid : Prop := Claim7.holds Tryd.pinned (.plain (OpenSpec.ofChange topStateSpec)) topStateCard

/-- THE TIED CARD OF 'cullaw.HexaSays'. -/
def hexaSaysCard : Claim7 := { stood := { row := hexaSaysRow, standIns := [], harness := (true, "558e61dd3d98c30b1cb464ad7ace1255491e3805a016d1bf0a40480cb695e380"), looks := false }, kinds := [], alts := [], laidByText := true, laidKinds := [.data, .pinned], laidTests := true, laidLooks := .later }
def HexaSaysCardSaid : Prop := Claim7.holds Tryd.pinned (.plain (OpenSpec.ofChange hexaSaysSpec)) hexaSaysCard

/-- THE TIED CARD OF 'cullaw.StateSays'. -/
def stateSaysCard : Claim7 := { stood := { row := stateSaysRow, standIns := [], harness := (true, "558e61dd3d98c30b1cb464ad7ace1255491e3805a016d1bf0a40480cb695e380"), looks := false }, kinds := [], alts := [], laidByText := true, laidKinds := [.data, .pinned], laidTests := true, laidLooks := .later }
def StateSaysCardSaid : Prop := Claim7.holds Tryd.pinned (.plain (OpenSpec.ofChange stateSaysSpec)) stateSaysCard

/-- THE TIED CARD OF 'cullaw.StateMarks'. -/
def stateMarksCard : Claim7 := { stood := { row := stateMarksRow, standIns := [], harness := (true, "558e61dd3d98c30b1cb464ad7ace1255491e3805a016d1bf0a40480cb695e380"), looks := false }, kinds := [], alts := [], laidByText := true, laidKinds := [.data, .pinned], laidTests := true, laidLooks := .later }
def StateMarksCardSaid : Prop := Claim7.holds Tryd.pinned (.plain (OpenSpec.ofChange stateMarksSpec)) stateMarksCard

/-- THE SECOND FORM's CARD OF 'cultop.TopState'. -/
def topStateUptoCard : Claim7 := { stood := { row := topStateUptoRow, standIns := [], harness := (true, "558e61dd3d98c30b1cb464ad7ace1255491e3805a016d1bf0a40480cb695e380"), looks := false }, kinds := [], alts := [], laidByText := true, laidKinds := [.data, .pinned], laidTests := true, laidLooks := .later }
def TopStateUptoCardSaid : Prop := Claim7.holds Tryd.pinned (.plain (OpenSpec.upto topStateSpec)) topStateUptoCard

/-- THE SECOND FORM's CARD OF 'cullaw.HexaSays'. -/
def hexaSaysUptoCard : Claim7 := { stood := { row := hexaSaysUptoRow, standIns := [], harness := (true, "558e61dd3d98c30b1cb464ad7ace1255491e3805a016d1bf0a40480cb695e380"), looks := false }, kinds := [], alts := [], laidByText := true, laidKinds := [.data, .pinned], laidTests := true, laidLooks := .later }
def HexaSaysUptoCardSaid : Prop := Claim7.holds Tryd.pinned (.plain (OpenSpec.upto hexaSaysSpec)) hexaSaysUptoCard

/-- THE SECOND FORM's CARD OF 'cullaw.StateSays'. -/
def stateSaysUptoCard : Claim7 := { stood := { row := stateSaysUptoRow, standIns := [], harness := (true, "558e61dd3d98c30b1cb464ad7ace1255491e3805a016d1bf0a40480cb695e380"), looks := false }, kinds := [], alts := [], laidByText := true, laidKinds := [.data, .pinned], laidTests := true, laidLooks := .later }
def StateSaysUptoCardSaid : Prop := Claim7.holds Tryd.pinned (.plain (OpenSpec.upto stateSaysSpec)) stateSaysUptoCard

/-- THE SECOND FORM's CARD OF 'cullaw.StateMarks'. -/
def stateMarksUptoCard : Claim7 := { stood := { row := stateMarksUptoRow, standIns := [], harness := (true, "558e61dd3d98c30b1cb464ad7ace1255491e3805a016d1bf0a40480cb695e380"), looks := false }, kinds := [], alts := [], laidByText := true, laidKinds := [.data, .pinned], laidTests := true, laidLooks := .later }
def StateMarksUptoCardSaid : Prop := Claim7.holds Tryd.pinned (.plain (OpenSpec.upto stateMarksSpec)) stateMarksUptoCard
end Rows
end Go.Proofs.YtkliebhpdcjdgaaDoor
