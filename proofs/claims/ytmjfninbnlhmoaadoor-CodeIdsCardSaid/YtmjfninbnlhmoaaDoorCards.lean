/-
  DERIVED. GIVEN WITH THE SEED: THE CARDS: each row of YtmjfninbnlhmoaaDoorRows.lean that lists a variable, with what it lists TIED to the program's text (the seventh form; the later family's looks); each row that meets fmt, with fmt's text TOLD by the authors' own Lean function (tested against real Go, not proved from fmt's source: count such statements apart). THE CARD IS WHAT COUNTS. Prove the row's statement (the work); the ties are given (YtmjfninbnlhmoaaDoorTie.lean); close each card by the builder's one call (the guide's Derived/Test/ToyasCard.lean, 'card_holds'). Laid BY PROGRAM, IN A SANDBOX (cutbox-door.mjs). By AI agents, Wed Nov 11 2026. No macro, syntax, notation, axiom, sorry.
-/
import Derived.Test.YtmjfninbnlhmoaaDoorRows
import GoSem.ClaimSeven
namespace Go.Proofs.YtmjfninbnlhmoaaDoor
namespace Rows

/-- THE TIED CARD OF 'tripwirelaw03.CodeOrders'. -/
def codeOrdersCard : Claim7 := { stood := { row := codeOrdersRow, standIns := [], harness := (true, "299d727ee62d1ee10489692ea484b60c7ae6aa6e875cacd183574a3ebc8ac48f"), looks := true }, kinds := [], alts := [], laidByText := true, laidKinds := [.data, .pinned], laidTests := true, laidLooks := .later }
def CodeOrdersCardSaid : Prop := Claim7.holds Tryd.pinned (.plain (OpenSpec.ofChange codeOrdersSpec)) codeOrdersCard

/-- THE TIED CARD OF 'tripwirelaw03.CodeNexts'. -/
def codeNextsCard : Claim7 := { stood := { row := codeNextsRow, standIns := [], harness := (true, "299d727ee62d1ee10489692ea484b60c7ae6aa6e875cacd183574a3ebc8ac48f"), looks := true }, kinds := [], alts := [], laidByText := true, laidKinds := [.data, .pinned], laidTests := true, laidLooks := .later }
def CodeNextsCardSaid : Prop := Claim7.holds Tryd.pinned (.plain (OpenSpec.ofChange codeNextsSpec)) codeNextsCard

/-- THE TIED CARD OF 'tripwirelaw03.CodeRanges'. -/
def codeRangesCard : Claim7 := { stood := { row := codeRangesRow, standIns := [], harness := (true, "299d727ee62d1ee10489692ea484b60c7ae6aa6e875cacd183574a3ebc8ac48f"), looks := true }, kinds := [], alts := [], laidByText := true, laidKinds := [.data, .pinned], laidTests := true, laidLooks := .later }
def CodeRangesCardSaid : Prop := Claim7.holds Tryd.pinned (.plain (OpenSpec.ofChange codeRangesSpec)) codeRangesCard

/-- THE TIED CARD OF 'tripwirelaw03.CodeIds'. -/
def codeIdsCard : Claim7 := { stood := { row := codeIdsRow, standIns := [], harness := (true, "299d727ee62d1ee10489692ea484b60c7ae6aa6e875cacd183574a3ebc8ac48f"), looks := true }, kinds := [], alts := [], laidByText := true, laidKinds := [.data, .pinned], laidTests := true, laidLooks := .later }
def CodeIdsCardSaid : Prop := Claim7.holds Tryd.pinned (.plain (OpenSpec.ofChange codeIdsSpec)) codeIdsCard

/-- THE TIED CARD OF 'tripwirelaw03.CodeKeys'. -/
def codeKeysCard : Claim7 := { stood := { row := codeKeysRow, standIns := [], harness := (true, "299d727ee62d1ee10489692ea484b60c7ae6aa6e875cacd183574a3ebc8ac48f"), looks := true }, kinds := [], alts := [], laidByText := true, laidKinds := [.data, .pinned], laidTests := true, laidLooks := .later }
def CodeKeysCardSaid : Prop := Claim7.holds Tryd.pinned (.plain (OpenSpec.ofChange codeKeysSpec)) codeKeysCard

/-- THE TIED CARD OF 'tripwirelaw03.CodeReads'. -/
def codeReadsCard : Claim7 := { stood := { row := codeReadsRow, standIns := [], harness := (true, "299d727ee62d1ee10489692ea484b60c7ae6aa6e875cacd183574a3ebc8ac48f"), looks := true }, kinds := [], alts := [], laidByText := true, laidKinds := [.data, .pinned], laidTests := true, laidLooks := .later }
def CodeReadsCardSaid : Prop := Claim7.holds Tryd.pinned (.plain (OpenSpec.ofChange codeReadsSpec)) codeReadsCard

/-- THE TIED CARD OF 'tripwirelaw03.CodeRows'. -/
def codeRowsCard : Claim7 := { stood := { row := codeRowsRow, standIns := [], harness := (true, "299d727ee62d1ee10489692ea484b60c7ae6aa6e875cacd183574a3ebc8ac48f"), looks := true }, kinds := [], alts := [], laidByText := true, laidKinds := [.data, .pinned], laidTests := true, laidLooks := .later }
def CodeRowsCardSaid : Prop := Claim7.holds Tryd.pinned (.plain (OpenSpec.ofChange codeRowsSpec)) codeRowsCard

/-- THE TIED CARD OF 'tripwirelaw03.CodeUnrows'. -/
def codeUnrowsCard : Claim7 := { stood := { row := codeUnrowsRow, standIns := [], harness := (true, "299d727ee62d1ee10489692ea484b60c7ae6aa6e875cacd183574a3ebc8ac48f"), looks := true }, kinds := [], alts := [], laidByText := true, laidKinds := [.data, .pinned], laidTests := true, laidLooks := .later }
def CodeUnrowsCardSaid : Prop := Claim7.holds Tryd.pinned (.plain (OpenSpec.ofChange codeUnrowsSpec)) codeUnrowsCard

/-- THE SECOND FORM's CARD OF 'tripwirelaw03.CodeOrders'. -/
def codeOrdersUptoCard : Claim7 := { stood := { row := codeOrdersUptoRow, standIns := [], harness := (true, "299d727ee62d1ee10489692ea484b60c7ae6aa6e875cacd183574a3ebc8ac48f"), looks := true }, kinds := [], alts := [], laidByText := true, laidKinds := [.data, .pinned], laidTests := true, laidLooks := .later }
def CodeOrdersUptoCardSaid : Prop := Claim7.holds Tryd.pinned (.plain (OpenSpec.upto codeOrdersSpec)) codeOrdersUptoCard

/-- THE SECOND FORM's CARD OF 'tripwirelaw03.CodeNexts'. -/
def codeNextsUptoCard : Claim7 := { stood := { row := codeNextsUptoRow, standIns := [], harness := (true, "299d727ee62d1ee10489692ea484b60c7ae6aa6e875cacd183574a3ebc8ac48f"), looks := true }, kinds := [], alts := [], laidByText := true, laidKinds := [.data, .pinned], laidTests := true, laidLooks := .later }
def CodeNextsUptoCardSaid : Prop := Claim7.holds Tryd.pinned (.plain (OpenSpec.upto codeNextsSpec)) codeNextsUptoCard

/-- THE SECOND FORM's CARD OF 'tripwirelaw03.CodeRanges'. -/
def codeRangesUptoCard : Claim7 := { stood := { row := codeRangesUptoRow, standIns := [], harness := (true, "299d727ee62d1ee10489692ea484b60c7ae6aa6e875cacd183574a3ebc8ac48f"), looks := true }, kinds := [], alts := [], laidByText := true, laidKinds := [.data, .pinned], laidTests := true, laidLooks := .later }
def CodeRangesUptoCardSaid : Prop := Claim7.holds Tryd.pinned (.plain (OpenSpec.upto codeRangesSpec)) codeRangesUptoCard

/-- THE SECOND FORM's CARD OF 'tripwirelaw03.CodeIds'. -/
def codeIdsUptoCard : Claim7 := { stood := { row := codeIdsUptoRow, standIns := [], harness := (true, "299d727ee62d1ee10489692ea484b60c7ae6aa6e875cacd183574a3ebc8ac48f"), looks := true }, kinds := [], alts := [], laidByText := true, laidKinds := [.data, .pinned], laidTests := true, laidLooks := .later }
def CodeIdsUptoCardSaid : Prop := Claim7.holds Tryd.pinned (.plain (OpenSpec.upto codeIdsSpec)) codeIdsUptoCard

/-- THE SECOND FORM's CARD OF 'tripwirelaw03.CodeKeys'. -/
def codeKeysUptoCard : Claim7 := { stood := { row := codeKeysUptoRow, standIns := [], harness := (true, "299d727ee62d1ee10489692ea484b60c7ae6aa6e875cacd183574a3ebc8ac48f"), looks := true }, kinds := [], alts := [], laidByText := true, laidKinds := [.data, .pinned], laidTests := true, laidLooks := .later }
def CodeKeysUptoCardSaid : Prop := Claim7.holds Tryd.pinned (.plain (OpenSpec.upto codeKeysSpec)) codeKeysUptoCard

/-- THE SECOND FORM's CARD OF 'tripwirelaw03.CodeReads'. -/
def codeReadsUptoCard : Claim7 := { stood := { row := codeReadsUptoRow, standIns := [], harness := (true, "299d727ee62d1ee10489692ea484b60c7ae6aa6e875cacd183574a3ebc8ac48f"), looks := true }, kinds := [], alts := [], laidByText := true, laidKinds := [.data, .pinned], laidTests := true, laidLooks := .later }
def CodeReadsUptoCardSaid : Prop := Claim7.holds Tryd.pinned (.plain (OpenSpec.upto codeReadsSpec)) codeReadsUptoCard

/-- THE SECOND FORM's CARD OF 'tripwirelaw03.CodeRows'. -/
def codeRowsUptoCard : Claim7 := { stood := { row := codeRowsUptoRow, standIns := [], harness := (true, "299d727ee62d1ee10489692ea484b60c7ae6aa6e875cacd183574a3ebc8ac48f"), looks := true }, kinds := [], alts := [], laidByText := true, laidKinds := [.data, .pinned], laidTests := true, laidLooks := .later }
def CodeRowsUptoCardSaid : Prop := Claim7.holds Tryd.pinned (.plain (OpenSpec.upto codeRowsSpec)) codeRowsUptoCard

/-- THE SECOND FORM's CARD OF 'tripwirelaw03.CodeUnrows'. -/
def codeUnrowsUptoCard : Claim7 := { stood := { row := codeUnrowsUptoRow, standIns := [], harness := (true, "299d727ee62d1ee10489692ea484b60c7ae6aa6e875cacd183574a3ebc8ac48f"), looks := true }, kinds := [], alts := [], laidByText := true, laidKinds := [.data, .pinned], laidTests := true, laidLooks := .later }
def CodeUnrowsUptoCardSaid : Prop := Claim7.holds Tryd.pinned (.plain (OpenSpec.upto codeUnrowsSpec)) codeUnrowsUptoCard
end Rows
end Go.Proofs.YtmjfninbnlhmoaaDoor
