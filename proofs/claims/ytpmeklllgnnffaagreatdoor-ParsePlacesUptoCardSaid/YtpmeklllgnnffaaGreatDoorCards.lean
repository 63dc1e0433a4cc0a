/-
  DERIVED. GIVEN WITH THE SEED: THE CARDS: each row of YtpmeklllgnnffaaGreatDoorRows.lean that lists a variable, with what it lists TIED to the program's text (the seventh form; the later family's looks); each row that meets fmt, with fmt's text TOLD by the authors' own Lean function (tested against real Go, not proved from fmt's source: count such statements apart). THE CARD IS WHAT COUNTS. Prove the row's statement (the work); the ties are given (YtpmeklllgnnffaaGreatDoorTie.lean); close each card by the builder's one call (the guide's Derived/Test/ToyasCard.lean, 'card_holds'). Laid BY PROGRAM, IN A SANDBOX (cutbox-door.mjs). By AI agents, Wed Nov 11 2026. No macro, syntax, notation, axiom, sorry.
-/
import Derived.Test.YtpmeklllgnnffaaGreatDoorRows
import GoSem.ClaimSeven
namespace Go.Proofs.YtpmeklllgnnffaaGreatDoor
namespace Rows

/-- THE TIED CARD OF 'tripwirelaw13.AstShows'. -/
def astShowsCard : Claim7 := { stood := { row := astShowsRow, standIns := [], harness := (true, "2a610ed43ac31b24b176a09ba62d66aec4489ced1d3304b0fc31cf13cd5ec607"), looks := true }, kinds := [], alts := [], laidByText := true, laidKinds := [.data, .data, .data, .data, .pinned, .pinned], laidTests := true, laidLooks := .later }
def AstShowsCardSaid : Prop := Claim7.holds Tryz.pinned (.plain (OpenSpec.ofChange astShowsSpec)) astShowsCard

/-- THE TIED CARD OF 'tripwirelaw13.AstUnlike'. -/
def astUnlikeCard : Claim7 := { stood := { row := astUnlikeRow, standIns := [], harness := (true, "2a610ed43ac31b24b176a09ba62d66aec4489ced1d3304b0fc31cf13cd5ec607"), looks := true }, kinds := [], alts := [], laidByText := true, laidKinds := [.data, .data, .data, .data, .pinned, .pinned], laidTests := true, laidLooks := .later }
def AstUnlikeCardSaid : Prop := Claim7.holds Tryz.pinned (.plain (OpenSpec.ofChange astUnlikeSpec)) astUnlikeCard

/-- THE TIED CARD OF 'tripwirelaw13.AstExprs'. -/
def astExprsCard : Claim7 := { stood := { row := astExprsRow, standIns := [], harness := (true, "2a610ed43ac31b24b176a09ba62d66aec4489ced1d3304b0fc31cf13cd5ec607"), looks := true }, kinds := [], alts := [], laidByText := true, laidKinds := [.data, .data, .data, .data, .pinned, .pinned], laidTests := true, laidLooks := .later }
def AstExprsCardSaid : Prop := Claim7.holds Tryz.pinned (.plain (OpenSpec.ofChange astExprsSpec)) astExprsCard

/-- THE TIED CARD OF 'tripwirelaw14.ParseReads'. -/
def parseReadsCard : Claim7 := { stood := { row := parseReadsRow, standIns := [], harness := (true, "2a610ed43ac31b24b176a09ba62d66aec4489ced1d3304b0fc31cf13cd5ec607"), looks := true }, kinds := [], alts := [], laidByText := true, laidKinds := [.data, .data, .data, .data, .sentinel, .sentinel, .pinned, .pinned], laidTests := true, laidLooks := .later }
def ParseReadsCardSaid : Prop := Claim7.holds Tryz.pinned (.plain (OpenSpec.ofChange parseReadsSpec)) parseReadsCard

/-- THE TIED CARD OF 'tripwirelaw14.ParseBack'. -/
def parseBackCard : Claim7 := { stood := { row := parseBackRow, standIns := [], harness := (true, "2a610ed43ac31b24b176a09ba62d66aec4489ced1d3304b0fc31cf13cd5ec607"), looks := true }, kinds := [], alts := [], laidByText := true, laidKinds := [.data, .data, .data, .data, .sentinel, .sentinel, .pinned, .pinned], laidTests := true, laidLooks := .later }
def ParseBackCardSaid : Prop := Claim7.holds Tryz.pinned (.plain (OpenSpec.ofChange parseBackSpec)) parseBackCard

/-- THE TIED CARD OF 'tripwirelaw14.ParseAgain'. -/
def parseAgainCard : Claim7 := { stood := { row := parseAgainRow, standIns := [], harness := (true, "2a610ed43ac31b24b176a09ba62d66aec4489ced1d3304b0fc31cf13cd5ec607"), looks := true }, kinds := [], alts := [], laidByText := true, laidKinds := [.data, .data, .data, .data, .sentinel, .sentinel, .pinned, .pinned], laidTests := true, laidLooks := .later }
def ParseAgainCardSaid : Prop := Claim7.holds Tryz.pinned (.plain (OpenSpec.ofChange parseAgainSpec)) parseAgainCard

/-- THE TIED CARD OF 'tripwirelaw14.ParsePlaces'. -/
def parsePlacesCard : Claim7 := { stood := { row := parsePlacesRow, standIns := [], harness := (true, "2a610ed43ac31b24b176a09ba62d66aec4489ced1d3304b0fc31cf13cd5ec607"), looks := true }, kinds := [], alts := [], laidByText := true, laidKinds := [.data, .data, .data, .data, .sentinel, .sentinel, .pinned, .pinned], laidTests := true, laidLooks := .later }
def ParsePlacesCardSaid : Prop := Claim7.holds Tryz.pinned (.plain (OpenSpec.ofChange parsePlacesSpec)) parsePlacesCard

/-- THE TIED CARD OF 'tripwirelaw14.ParseExprs'. -/
def parseExprsCard : Claim7 := { stood := { row := parseExprsRow, standIns := [], harness := (true, "2a610ed43ac31b24b176a09ba62d66aec4489ced1d3304b0fc31cf13cd5ec607"), looks := true }, kinds := [], alts := [], laidByText := true, laidKinds := [.data, .data, .data, .data, .sentinel, .sentinel, .pinned, .pinned], laidTests := true, laidLooks := .later }
def ParseExprsCardSaid : Prop := Claim7.holds Tryz.pinned (.plain (OpenSpec.ofChange parseExprsSpec)) parseExprsCard

/-- THE TIED CARD OF 'tripwirelaw14.ParseLeft'. -/
def parseLeftCard : Claim7 := { stood := { row := parseLeftRow, standIns := [], harness := (true, "2a610ed43ac31b24b176a09ba62d66aec4489ced1d3304b0fc31cf13cd5ec607"), looks := true }, kinds := [], alts := [], laidByText := true, laidKinds := [.data, .data, .data, .data, .sentinel, .sentinel, .pinned, .pinned], laidTests := true, laidLooks := .later }
def ParseLeftCardSaid : Prop := Claim7.holds Tryz.pinned (.plain (OpenSpec.ofChange parseLeftSpec)) parseLeftCard

/-- THE SECOND FORM's CARD OF 'tripwirelaw13.AstShows'. -/
def astShowsUptoCard : Claim7 := { stood := { row := astShowsUptoRow, standIns := [], harness := (true, "2a610ed43ac31b24b176a09ba62d66aec4489ced1d3304b0fc31cf13cd5ec607"), looks := true }, kinds := [], alts := [], laidByText := true, laidKinds := [.data, .data, .data, .data, .pinned, .pinned], laidTests := true, laidLooks := .later }
def AstShowsUptoCardSaid : Prop := Claim7.holds Tryz.pinned (.plain (OpenSpec.upto astShowsSpec)) astShowsUptoCard

/-- THE SECOND FORM's CARD OF 'tripwirelaw13.AstUnlike'. -/
def astUnlikeUptoCard : Claim7 := { stood := { row := astUnlikeUptoRow, standIns := [], harness := (true, "2a610ed43ac31b24b176a09ba62d66aec4489ced1d3304b0fc31cf13cd5ec607"), looks := true }, kinds := [], alts := [], laidByText := true, laidKinds := [.data, .data, .data, .data, .pinned, .pinned], laidTests := true, laidLooks := .later }
def AstUnlikeUptoCardSaid : Prop := Claim7.holds Tryz.pinned (.plain (OpenSpec.upto astUnlikeSpec)) astUnlikeUptoCard

/-- THE SECOND FORM's CARD OF 'tripwirelaw13.AstExprs'. -/
def astExprsUptoCard : Claim7 := { stood := { row := astExprsUptoRow, standIns := [], harness := (true, "2a610ed43ac31b24b176a09ba62d66aec4489ced1d3304b0fc31cf13cd5ec607"), looks := true }, kinds := [], alts := [], laidByText := true, laidKinds := [.data, .data, .data, .data, .pinned, .pinned], laidTests := true, laidLooks := .later }
def AstExprsUptoCardSaid : Prop := Claim7.holds Tryz.pinned (.plain (OpenSpec.upto astExprsSpec)) astExprsUptoCard

/-- THE SECOND FORM's CARD OF 'tripwirelaw14.ParseReads'. -/
def parseReadsUptoCard : Claim7 := { stood := { row := parseReadsUptoRow, standIns := [], harness := (true, "2a610ed43ac31b24b176a09ba62d66aec4489ced1d3304b0fc31cf13cd5ec607"), looks := true }, kinds := [], alts := [], laidByText := true, laidKinds := [.data, .data, .data, .data, .sentinel, .sentinel, .pinned, .pinned], laidTests := true, laidLooks := .later }
def ParseReadsUptoCardSaid : Prop := Claim7.holds Tryz.pinned (.plain (OpenSpec.upto parseReadsSpec)) parseReadsUptoCard

/-- THE SECOND FORM's CARD OF 'tripwirelaw14.ParseBack'. -/
def parseBackUptoCard : Claim7 := { stood := { row := parseBackUptoRow, standIns := [], harness := (true, "2a610ed43ac31b24b176a09ba62d66aec4489ced1d3304b0fc31cf13cd5ec607"), looks := true }, kinds := [], alts := [], laidByText := true, laidKinds := [.data, .data, .data, .data, .sentinel, .sentinel, .pinned, .pinned], laidTests := true, laidLooks := .later }
def ParseBackUptoCardSaid : Prop := Claim7.holds Tryz.pinned (.plain (OpenSpec.upto parseBackSpec)) parseBackUptoCard

/-- THE SECOND FORM's CARD OF 'tripwirelaw14.ParseAgain'. -/
def parseAgainUptoCard : Claim7 := { stood := { row := parseAgainUptoRow, standIns := [], harness := (true, "2a610ed43ac31b24b176a09ba62d66aec4489ced1d3304b0fc31cf13cd5ec607"), looks := true }, kinds := [], alts := [], laidByText := true, laidKinds := [.data, .data, .data, .data, .sentinel, .sentinel, .pinned, .pinned], laidTests := true, laidLooks := .later }
def ParseAgainUptoCardSaid : Prop := Claim7.holds Tryz.pinned (.plain (OpenSpec.upto parseAgainSpec)) parseAgainUptoCard

/-- THE SECOND FORM's CARD OF 'tripwirelaw14.ParsePlaces'. -/
def parsePlacesUptoCard : Claim7 := { stood := { row := parsePlacesUptoRow, standIns := [], harness := (true, "2a610ed43ac31b24b176a09ba62d66aec4489ced1d3304b0fc31cf13cd5ec607"), looks := true }, kinds := [], alts := [], laidByText := true, laidKinds := [.data, .data, .data, .data, .sentinel, .sentinel, .pinned, .pinned], laidTests := true, laidLooks := .later }
def ParsePlacesUptoCardSaid : Prop := Claim7.holds Tryz.pinned (.plain (OpenSpec.upto parsePlacesSpec)) parsePlacesUptoCard

/-- THE SECOND FORM's CARD OF 'tripwirelaw14.ParseExprs'. -/
def parseExprsUptoCard : Claim7 := { stood := { row := parseExprsUptoRow, standIns := [], harness := (true, "2a610ed43ac31b24b176a09ba62d66aec4489ced1d3304b0fc31cf13cd5ec607"), looks := true }, kinds := [], alts := [], laidByText := true, laidKinds := [.data, .data, .data, .data, .sentinel, .sentinel, .pinned, .pinned], laidTests := true, laidLooks := .later }
def ParseExprsUptoCardSaid : Prop := Claim7.holds Tryz.pinned (.plain (OpenSpec.upto parseExprsSpec)) parseExprsUptoCard

/-- THE SECOND FORM's CARD OF 'tripwirelaw14.ParseLeft'. -/
def parseLeftUptoCard : Claim7 := { stood := { row := parseLeftUptoRow, standIns := [], harness := (true, "2a610ed43ac31b24b176a09ba62d66aec4489ced1d3304b0fc31cf13cd5ec607"), looks := true }, kinds := [], alts := [], laidByText := true, laidKinds := [.data, .data, .data, .data, .sentinel, .sentinel, .pinned, .pinned], laidTests := true, laidLooks := .later }
def ParseLeftUptoCardSaid : Prop := Claim7.holds Tryz.pinned (.plain (OpenSpec.upto parseLeftSpec)) parseLeftUptoCard
end Rows
end Go.Proofs.YtpmeklllgnnffaaGreatDoor
