/-
  DERIVED. GIVEN WITH THE SEED: THE CARDS: each row of YtjafjngbllmgbaaDoorRows.lean that lists a variable, with what it lists TIED to the program's text (the seventh form; the later family's looks); each row that meets fmt, with fmt's text TOLD by the authors' own Lean function (tested against real Go, not proved from fmt's source: count such statements apart). THE CARD IS WHAT COUNTS. Prove the row's statement (the work); the ties are given (YtjafjngbllmgbaaDoorTie.lean); close each card by the builder's one call (the guide's Derived/Test/ToyasCard.lean, 'card_holds'). Laid BY PROGRAM, IN A SANDBOX (cutbox-door.mjs). By AI agents, Wed Nov 11 2026. No macro, syntax, notation, axiom, sorry.
-/
import Derived.Test.YtjafjngbllmgbaaDoorRows
import GoSem.ClaimSeven
namespace Go.Proofs.YtjafjngbllmgbaaDoor
namespace Rows

/-- THE TIED CARD OF 'tripwirelaw02.ValueOrders'. -/
def valueOrdersCard : Claim7 := { stood := { row := valueOrdersRow, standIns := [], harness := (true, "2ff09121a8bd9f407eed22362d85d49eae0b603d88df38560f69abf2dccae824"), looks := false }, kinds := [], alts := [], laidByText := true, laidKinds := [.data, .data, .data, .data, .pinned], laidTests := true, laidLooks := .later }
def ValueOrdersCardSaid : Prop := Claim7.holds Tryd.pinned (.plain (OpenSpec.ofChange valueOrdersSpec)) valueOrdersCard

/-- THE TIED CARD OF 'tripwirelaw02.ValueHolds'. -/
def valueHoldsCard : Claim7 := { stood := { row := valueHoldsRow, standIns := [], harness := (true, "2ff09121a8bd9f407eed22362d85d49eae0b603d88df38560f69abf2dccae824"), looks := false }, kinds := [], alts := [], laidByText := true, laidKinds := [.data, .data, .data, .data, .pinned], laidTests := true, laidLooks := .later }
def ValueHoldsCardSaid : Prop := Claim7.holds Tryd.pinned (.plain (OpenSpec.ofChange valueHoldsSpec)) valueHoldsCard

/-- THE TIED CARD OF 'tripwirelaw02.ValueReckons'. -/
def valueReckonsCard : Claim7 := { stood := { row := valueReckonsRow, standIns := [], harness := (true, "2ff09121a8bd9f407eed22362d85d49eae0b603d88df38560f69abf2dccae824"), looks := false }, kinds := [], alts := [], laidByText := true, laidKinds := [.data, .data, .data, .data, .pinned], laidTests := true, laidLooks := .later }
def ValueReckonsCardSaid : Prop := Claim7.holds Tryd.pinned (.plain (OpenSpec.ofChange valueReckonsSpec)) valueReckonsCard

/-- THE TIED CARD OF 'tripwirelaw02.ValueBack'. -/
def valueBackCard : Claim7 := { stood := { row := valueBackRow, standIns := [], harness := (true, "2ff09121a8bd9f407eed22362d85d49eae0b603d88df38560f69abf2dccae824"), looks := false }, kinds := [], alts := [], laidByText := true, laidKinds := [.data, .data, .data, .data, .pinned], laidTests := true, laidLooks := .later }
def ValueBackCardSaid : Prop := Claim7.holds Tryd.pinned (.plain (OpenSpec.ofChange valueBackSpec)) valueBackCard

/-- THE TIED CARD OF 'tripwirelaw02.ValueSpread'. -/
def valueSpreadCard : Claim7 := { stood := { row := valueSpreadRow, standIns := [], harness := (true, "2ff09121a8bd9f407eed22362d85d49eae0b603d88df38560f69abf2dccae824"), looks := false }, kinds := [], alts := [], laidByText := true, laidKinds := [.data, .data, .data, .data, .pinned], laidTests := true, laidLooks := .later }
def ValueSpreadCardSaid : Prop := Claim7.holds Tryd.pinned (.plain (OpenSpec.ofChange valueSpreadSpec)) valueSpreadCard

/-- THE TIED CARD OF 'tripwirelaw02.ValueShows'. -/
def valueShowsCard : Claim7 := { stood := { row := valueShowsRow, standIns := [], harness := (true, "2ff09121a8bd9f407eed22362d85d49eae0b603d88df38560f69abf2dccae824"), looks := false }, kinds := [], alts := [], laidByText := true, laidKinds := [.data, .data, .data, .data, .pinned], laidTests := true, laidLooks := .later }
def ValueShowsCardSaid : Prop := Claim7.holds Tryd.pinned (.plain (OpenSpec.ofChange valueShowsSpec)) valueShowsCard

/-- THE TIED CARD OF 'tripwirelaw02.ValueTruths'. -/
def valueTruthsCard : Claim7 := { stood := { row := valueTruthsRow, standIns := [], harness := (true, "2ff09121a8bd9f407eed22362d85d49eae0b603d88df38560f69abf2dccae824"), looks := false }, kinds := [], alts := [], laidByText := true, laidKinds := [.data, .data, .data, .data, .pinned], laidTests := true, laidLooks := .later }
def ValueTruthsCardSaid : Prop := Claim7.holds Tryd.pinned (.plain (OpenSpec.ofChange valueTruthsSpec)) valueTruthsCard

/-- THE SECOND FORM's CARD OF 'tripwirelaw02.ValueOrders'. -/
def valueOrdersUptoCard : Claim7 := { stood := { row := valueOrdersUptoRow, standIns := [], harness := (true, "2ff09121a8bd9f407eed22362d85d49eae0b603d88df38560f69abf2dccae824"), looks := false }, kinds := [], alts := [], laidByText := true, laidKinds := [.data, .data, .data, .data, .pinned], laidTests := true, laidLooks := .later }
def ValueOrdersUptoCardSaid : Prop := Claim7.holds Tryd.pinned (.plain (OpenSpec.upto valueOrdersSpec)) valueOrdersUptoCard

/-- THE SECOND FORM's CARD OF 'tripwirelaw02.ValueHolds'. -/
def valueHoldsUptoCard : Claim7 := { stood := { row := valueHoldsUptoRow, standIns := [], harness := (true, "2ff09121a8bd9f407eed22362d85d49eae0b603d88df38560f69abf2dccae824"), looks := false }, kinds := [], alts := [], laidByText := true, laidKinds := [.data, .data, .data, .data, .pinned], laidTests := true, laidLooks := .later }
def ValueHoldsUptoCardSaid : Prop := Claim7.holds Tryd.pinned (.plain (OpenSpec.upto valueHoldsSpec)) valueHoldsUptoCard

/-- THE SECOND FORM's CARD OF 'tripwirelaw02.ValueReckons'. -/
def valueReckonsUptoCard : Claim7 := { stood := { row := valueReckonsUptoRow, standIns := [], harness := (true, "2ff09121a8bd9f407eed22362d85d49eae0b603d88df38560f69abf2dccae824"), looks := false }, kinds := [], alts := [], laidByText := true, laidKinds := [.data, .data, .data, .data, .pinned], laidTests := true, laidLooks := .later }
def ValueReckonsUptoCardSaid : Prop := Claim7.holds Tryd.pinned (.plain (OpenSpec.upto valueReckonsSpec)) valueReckonsUptoCard

/-- THE SECOND FORM's CARD OF 'tripwirelaw02.ValueBack'. -/
def valueBackUptoCard : Claim7 := { stood := { row := valueBackUptoRow, standIns := [], harness := (true, "2ff09121a8bd9f407eed22362d85d49eae0b603d88df38560f69abf2dccae824"), looks := false }, kinds := [], alts := [], laidByText := true, laidKinds := [.data, .data, .data, .data, .pinned], laidTests := true, laidLooks := .later }
def ValueBackUptoCardSaid : Prop := Claim7.holds Tryd.pinned (.plain (OpenSpec.upto valueBackSpec)) valueBackUptoCard

/-- THE SECOND FORM's CARD OF 'tripwirelaw02.ValueSpread'. -/
def valueSpreadUptoCard : Claim7 := { stood := { row := valueSpreadUptoRow, standIns := [], harness := (true, "2ff09121a8bd9f407eed22362d85d49eae0b603d88df38560f69abf2dccae824"), looks := false }, kinds := [], alts := [], laidByText := true, laidKinds := [.data, .data, .data, .data, .pinned], laidTests := true, laidLooks := .later }
def ValueSpreadUptoCardSaid : Prop := Claim7.holds Tryd.pinned (.plain (OpenSpec.upto valueSpreadSpec)) valueSpreadUptoCard

/-- THE SECOND FORM's CARD OF 'tripwirelaw02.ValueShows'. -/
def valueShowsUptoCard : Claim7 := { stood := { row := valueShowsUptoRow, standIns := [], harness := (true, "2ff09121a8bd9f407eed22362d85d49eae0b603d88df38560f69abf2dccae824"), looks := false }, kinds := [], alts := [], laidByText := true, laidKinds := [.data, .data, .data, .data, .pinned], laidTests := true, laidLooks := .later }
def ValueShowsUptoCardSaid : Prop := Claim7.holds Tryd.pinned (.plain (OpenSpec.upto valueShowsSpec)) valueShowsUptoCard

/-- THE SECOND FORM's CARD OF 'tripwirelaw02.ValueTruths'. -/
def valueTruthsUptoCard : Claim7 := { stood := { row := valueTruthsUptoRow, standIns := [], harness := (true, "2ff09121a8bd9f407eed22362d85d49eae0b603d88df38560f69abf2dccae824"), looks := false }, kinds := [], alts := [], laidByText := true, laidKinds := [.data, .data, .data, .data, .pinned], laidTests := true, laidLooks := .later }
def ValueTruthsUptoCardSaid : Prop := Claim7.holds Tryd.pinned (.plain (OpenSpec.upto valueTruthsSpec)) valueTruthsUptoCard
end Rows
end Go.Proofs.YtjafjngbllmgbaaDoor
