/-
  NARROWER THAN 'FOR EVERY INPUT', by the rows' own cells (each row's printed sentence says how): CodeOrders: laid · CodeNexts: laid · CodeRanges: laid · CodeIds: laid · CodeKeys: laid · CodeReads: laid · CodeRows: laid · CodeUnrows: laid.
  DERIVED. THE GIVEN ROWS OF THIS SEAT. 8 by the template 'for every input the law returns true; each argument reads behind the call as it read before'; 0 by the template 'total and deterministic' (their statements: YtmjfninbnlhmoaaDoorTotals.lean).
  GIVEN WITH THE SEED: the statements are not yours to turn. If you find one false, say at which input.
  Laid BY PROGRAM, IN A SANDBOX (cutbox-rows.mjs): the forced cells as the released guide's own fill.sh prints them over the translation caba60b1061066c6… (all of the seat's roots in one cut). By AI agents, Wed Nov 11 2026. No macro, syntax, notation, axiom, sorry.
-/
import Derived.Test.YtmjfninbnlhmoaaDoorChecked
import GoSem.PinnedTables
import GoSem.Claim
import GoSem.ClaimJoined
import GoSem.ClaimMapViews
import Derived.JoinedTies
import Derived.KernelRfl
namespace Go.Proofs.YtmjfninbnlhmoaaDoor
/- THE CELL 'sum', in the pinned program and in every row, IS THE sha256 OF THE DUMP (.gsa) THAT YtmjfninbnlhmoaaDoorProg.lean LOADS. Nothing in Lean hashes anything: it is a label: what it is worth is what the hold of that sum in a sandbox is worth. -/
noncomputable def Tryd.pinned : Pinned := { name := "ytmjfninbnlhmoaadoor", sum := "caba60b1061066c665a447eb5c0adb09e96baecd590d5c50239053c4952f39db", checked := Tryd.checked }
namespace Rows
def none {H : Type} : Left H := { results := [], args := [] }

/- WHAT THE LISTED PACKAGE-LEVEL VARIABLES READ AS WHEN THE CALL BEGINS. Each datum BY PROGRAM (the guide's laid-datum.mjs) off the statement by which the dump's own 'gosem.cut.vars' lays the variable. In a bare row this is a premise. The card (YtmjfninbnlhmoaaDoorCards.lean) ties it to the program's text. -/
def laid_unicode_utf8_acceptRanges {H : Type} : DataW H := .agg [.agg [.lit (.int .u8 128), .lit (.int .u8 191)], .agg [.lit (.int .u8 160), .lit (.int .u8 191)], .agg [.lit (.int .u8 128), .lit (.int .u8 159)], .agg [.lit (.int .u8 144), .lit (.int .u8 191)], .agg [.lit (.int .u8 128), .lit (.int .u8 143)], .agg [.lit (.int .u8 0), .lit (.int .u8 0)], .agg [.lit (.int .u8 0), .lit (.int .u8 0)], .agg [.lit (.int .u8 0), .lit (.int .u8 0)], .agg [.lit (.int .u8 0), .lit (.int .u8 0)], .agg [.lit (.int .u8 0), .lit (.int .u8 0)], .agg [.lit (.int .u8 0), .lit (.int .u8 0)], .agg [.lit (.int .u8 0), .lit (.int .u8 0)], .agg [.lit (.int .u8 0), .lit (.int .u8 0)], .agg [.lit (.int .u8 0), .lit (.int .u8 0)], .agg [.lit (.int .u8 0), .lit (.int .u8 0)], .agg [.lit (.int .u8 0), .lit (.int .u8 0)]]
/-- One of Go's own tables, pinned by name: the form's constant. -/
def laid_unicode_utf8_first : DataW Unit := Go.Pinned.utf8First

/-- 'tripwirelaw03.CodeOrders': WHATEVER THE INPUT: true; the input reads as it did. -/
def codeOrdersSpec : ChangeSpec := { name := "codeOrders", fn := fun _ => fun
  | [d1, d2] => { results := [.lit (.bool true)], args := [d1, d2] }
  | _ => none }
def codeOrdersRow : OpenClaim := { program := "ytmjfninbnlhmoaadoor", sum := "caba60b1061066c665a447eb5c0adb09e96baecd590d5c50239053c4952f39db", func := "tripwire/tripwirelaw03.CodeOrders", spec := "codeOrders", inPlace := ["internal/bytealg.CountString", "internal/bytealg.IndexByteString", "internal/bytealg.IndexString", "internal/abi.NoEscape", "internal/bytealg.MakeNoZero"], unfollowed := true, recurses := true, named := ["internal/bytealg.MaxLen", "unicode/utf8.first", "unicode/utf8.acceptRanges"], apart := false, laid := [("unicode/utf8.acceptRanges", laid_unicode_utf8_acceptRanges), ("unicode/utf8.first", laid_unicode_utf8_first)] }
def CodeOrdersSaid : Prop := codeOrdersRow.holds Tryd.pinned (OpenSpec.ofChange codeOrdersSpec)

/-- ITS FALSE NEIGHBOUR: 'it returns false'. Refute it at one input. -/
def codeOrdersWrong : ChangeSpec := { name := "codeOrders", fn := fun _ => fun
  | [d1, d2] => { results := [.lit (.bool false)], args := [d1, d2] }
  | _ => none }
def CodeOrdersWrongFalsely : Prop := codeOrdersRow.holds Tryd.pinned (OpenSpec.ofChange codeOrdersWrong)

/-- 'tripwirelaw03.CodeNexts': WHATEVER THE INPUT: true; the input reads as it did. -/
def codeNextsSpec : ChangeSpec := { name := "codeNexts", fn := fun _ => fun
  | [d1, d2] => { results := [.lit (.bool true)], args := [d1, d2] }
  | _ => none }
def codeNextsRow : OpenClaim := { program := "ytmjfninbnlhmoaadoor", sum := "caba60b1061066c665a447eb5c0adb09e96baecd590d5c50239053c4952f39db", func := "tripwire/tripwirelaw03.CodeNexts", spec := "codeNexts", inPlace := ["internal/bytealg.CountString", "internal/bytealg.IndexByteString", "internal/bytealg.IndexString", "internal/abi.NoEscape", "internal/bytealg.MakeNoZero"], unfollowed := true, recurses := true, named := ["internal/bytealg.MaxLen", "unicode/utf8.first", "unicode/utf8.acceptRanges"], apart := false, laid := [("unicode/utf8.acceptRanges", laid_unicode_utf8_acceptRanges), ("unicode/utf8.first", laid_unicode_utf8_first)] }
def CodeNextsSaid : Prop := codeNextsRow.holds Tryd.pinned (OpenSpec.ofChange codeNextsSpec)

/-- ITS FALSE NEIGHBOUR: 'it returns false'. Refute it at one input. -/
def codeNextsWrong : ChangeSpec := { name := "codeNexts", fn := fun _ => fun
  | [d1, d2] => { results := [.lit (.bool false)], args := [d1, d2] }
  | _ => none }
def CodeNextsWrongFalsely : Prop := codeNextsRow.holds Tryd.pinned (OpenSpec.ofChange codeNextsWrong)

/-- 'tripwirelaw03.CodeRanges': WHATEVER THE INPUT: true; the input reads as it did. -/
def codeRangesSpec : ChangeSpec := { name := "codeRanges", fn := fun _ => fun
  | [d1, d2, d3] => { results := [.lit (.bool true)], args := [d1, d2, d3] }
  | _ => none }
def codeRangesRow : OpenClaim := { program := "ytmjfninbnlhmoaadoor", sum := "caba60b1061066c665a447eb5c0adb09e96baecd590d5c50239053c4952f39db", func := "tripwire/tripwirelaw03.CodeRanges", spec := "codeRanges", inPlace := ["internal/bytealg.CountString", "internal/bytealg.IndexByteString", "internal/bytealg.IndexString", "internal/abi.NoEscape", "internal/bytealg.MakeNoZero"], unfollowed := true, recurses := true, named := ["internal/bytealg.MaxLen", "unicode/utf8.first", "unicode/utf8.acceptRanges"], apart := false, laid := [("unicode/utf8.acceptRanges", laid_unicode_utf8_acceptRanges), ("unicode/utf8.first", laid_unicode_utf8_first)] }
def CodeRangesSaid : Prop := codeRangesRow.holds Tryd.pinned (OpenSpec.ofChange codeRangesSpec)

/-- ITS FALSE NEIGHBOUR: 'it returns false'. Refute it at one input. -/
def codeRangesWrong : ChangeSpec := { name := "codeRanges", fn := fun _ => fun
  | [d1, d2, d3] => { results := [.lit (.bool false)], args := [d1, d2, d3] }
  | _ => none }
def CodeRangesWrongFalsely : Prop := codeRangesRow.holds Tryd.pinned (OpenSpec.ofChange codeRangesWrong)

/-- 'tripwirelaw03.CodeIds': WHATEVER THE INPUT: true; the input reads as it did. -/
def codeIdsSpec : ChangeSpec := { name := "codeIds", fn := fun _ => fun
  | [d1, d2, d3] => { results := [.lit (.bool true)], args := [d1, d2, d3] }
  | _ => none }
def codeIdsRow : OpenClaim := { program := "ytmjfninbnlhmoaadoor", sum := "caba60b1061066c665a447eb5c0adb09e96baecd590d5c50239053c4952f39db", func := "tripwire/tripwirelaw03.CodeIds", spec := "codeIds", inPlace := ["internal/bytealg.CountString", "internal/bytealg.IndexByteString", "internal/bytealg.IndexString", "internal/abi.NoEscape", "internal/bytealg.MakeNoZero"], unfollowed := true, recurses := true, named := ["internal/bytealg.MaxLen", "unicode/utf8.first", "unicode/utf8.acceptRanges"], apart := false, laid := [("unicode/utf8.acceptRanges", laid_unicode_utf8_acceptRanges), ("unicode/utf8.first", laid_unicode_utf8_first)] }
def CodeIdsSaid : Prop := codeIdsRow.holds Tryd.pinned (OpenSpec.ofChange codeIdsSpec)

/-- ITS FALSE NEIGHBOUR: 'it returns false'. Refute it at one input. -/
def codeIdsWrong : ChangeSpec := { name := "codeIds", fn := fun _ => fun
  | [d1, d2, d3] => { results := [.lit (.bool false)], args := [d1, d2, d3] }
  | _ => none }
def CodeIdsWrongFalsely : Prop := codeIdsRow.holds Tryd.pinned (OpenSpec.ofChange codeIdsWrong)

/-- 'tripwirelaw03.CodeKeys': WHATEVER THE INPUT: true; the input reads as it did. -/
def codeKeysSpec : ChangeSpec := { name := "codeKeys", fn := fun _ => fun
  | [d1, d2] => { results := [.lit (.bool true)], args := [d1, d2] }
  | _ => none }
def codeKeysRow : OpenClaim := { program := "ytmjfninbnlhmoaadoor", sum := "caba60b1061066c665a447eb5c0adb09e96baecd590d5c50239053c4952f39db", func := "tripwire/tripwirelaw03.CodeKeys", spec := "codeKeys", inPlace := ["internal/bytealg.CountString", "internal/bytealg.IndexByteString", "internal/bytealg.IndexString", "internal/abi.NoEscape", "internal/bytealg.MakeNoZero"], unfollowed := true, recurses := true, named := ["internal/bytealg.MaxLen", "unicode/utf8.first", "unicode/utf8.acceptRanges"], apart := false, laid := [("unicode/utf8.acceptRanges", laid_unicode_utf8_acceptRanges), ("unicode/utf8.first", laid_unicode_utf8_first)] }
def CodeKeysSaid : Prop := codeKeysRow.holds Tryd.pinned (OpenSpec.ofChange codeKeysSpec)

/-- ITS FALSE NEIGHBOUR: 'it returns false'. Refute it at one input. -/
def codeKeysWrong : ChangeSpec := { name := "codeKeys", fn := fun _ => fun
  | [d1, d2] => { results := [.lit (.bool false)], args := [d1, d2] }
  | _ => none }
def CodeKeysWrongFalsely : Prop := codeKeysRow.holds Tryd.pinned (OpenSpec.ofChange codeKeysWrong)

/-- 'tripwirelaw03.CodeReads': WHATEVER THE INPUT: true; the input reads as it did. -/
def codeReadsSpec : ChangeSpec := { name := "codeReads", fn := fun _ => fun
  | [d] => { results := [.lit (.bool true)], args := [d] }
  | _ => none }
def codeReadsRow : OpenClaim := { program := "ytmjfninbnlhmoaadoor", sum := "caba60b1061066c665a447eb5c0adb09e96baecd590d5c50239053c4952f39db", func := "tripwire/tripwirelaw03.CodeReads", spec := "codeReads", inPlace := ["internal/bytealg.CountString", "internal/bytealg.IndexByteString", "internal/bytealg.IndexString", "internal/abi.NoEscape", "internal/bytealg.MakeNoZero"], unfollowed := true, recurses := true, named := ["internal/bytealg.MaxLen", "unicode/utf8.first", "unicode/utf8.acceptRanges"], apart := false, laid := [("unicode/utf8.acceptRanges", laid_unicode_utf8_acceptRanges), ("unicode/utf8.first", laid_unicode_utf8_first)] }
def CodeReadsSaid : Prop := codeReadsRow.holds Tryd.pinned (OpenSpec.ofChange codeReadsSpec)

/-- ITS FALSE NEIGHBOUR: 'it returns false'. Refute it at one input. -/
def codeReadsWrong : ChangeSpec := { name := "codeReads", fn := fun _ => fun
  | [d] => { results := [.lit (.bool false)], args := [d] }
  | _ => none }
def CodeReadsWrongFalsely : Prop := codeReadsRow.holds Tryd.pinned (OpenSpec.ofChange codeReadsWrong)

/-- 'tripwirelaw03.CodeRows': WHATEVER THE INPUT: true; the input reads as it did. -/
def codeRowsSpec : ChangeSpec := { name := "codeRows", fn := fun _ => fun
  | [d1, d2] => { results := [.lit (.bool true)], args := [d1, d2] }
  | _ => none }
def codeRowsRow : OpenClaim := { program := "ytmjfninbnlhmoaadoor", sum := "caba60b1061066c665a447eb5c0adb09e96baecd590d5c50239053c4952f39db", func := "tripwire/tripwirelaw03.CodeRows", spec := "codeRows", inPlace := ["internal/bytealg.CountString", "internal/bytealg.IndexByteString", "internal/bytealg.IndexString", "internal/abi.NoEscape", "internal/bytealg.MakeNoZero"], unfollowed := true, recurses := true, named := ["internal/bytealg.MaxLen", "unicode/utf8.first", "unicode/utf8.acceptRanges"], apart := false, laid := [("unicode/utf8.acceptRanges", laid_unicode_utf8_acceptRanges), ("unicode/utf8.first", laid_unicode_utf8_first)] }
def CodeRowsSaid : Prop := codeRowsRow.holds Tryd.pinned (OpenSpec.ofChange codeRowsSpec)

/-- ITS FALSE NEIGHBOUR: 'it returns false'. Refute it at one input. -/
def codeRowsWrong : ChangeSpec := { name := "codeRows", fn := fun _ => fun
  | [d1, d2] => { results := [.lit (.bool false)], args := [d1, d2] }
  | _ => none }
def CodeRowsWrongFalsely : Prop := codeRowsRow.holds Tryd.pinned (OpenSpec.ofChange codeRowsWrong)

/-- 'tripwirelaw03.CodeUnrows': WHATEVER THE INPUT: true; the input reads as it did. -/
def codeUnrowsSpec : ChangeSpec := { name := "codeUnrows", fn := fun _ => fun
  | [d] => { results := [.lit (.bool true)], args := [d] }
  | _ => none }
def codeUnrowsRow : OpenClaim := { program := "ytmjfninbnlhmoaadoor", sum := "caba60b1061066c665a447eb5c0adb09e96baecd590d5c50239053c4952f39db", func := "tripwire/tripwirelaw03.CodeUnrows", spec := "codeUnrows", inPlace := ["internal/bytealg.CountString", "internal/bytealg.IndexByteString", "internal/bytealg.IndexString", "internal/abi.NoEscape", "internal/bytealg.MakeNoZero"], unfollowed := true, recurses := true, named := ["internal/bytealg.MaxLen", "unicode/utf8.first", "unicode/utf8.acceptRanges"], apart := false, laid := [("unicode/utf8.acceptRanges", laid_unicode_utf8_acceptRanges), ("unicode/utf8.first", laid_unicode_utf8_first)] }
def CodeUnrowsSaid : Prop := codeUnrowsRow.holds Tryd.pinned (OpenSpec.ofChange codeUnrowsSpec)

/-- ITS FALSE NEIGHBOUR: 'it returns false'. Refute it at one input. -/
def codeUnrowsWrong : ChangeSpec := { name := "codeUnrows", fn := fun _ => fun
  | [d] => { results := [.lit (.bool false)], args := [d] }
  | _ => none }
def CodeUnrowsWrongFalsely : Prop := codeUnrowsRow.holds Tryd.pinned (OpenSpec.ofChange codeUnrowsWrong)

/- THE SECOND FORM. 'bulk': how many values and letters a reading holds, each counted each time it is reached (what is shared counts as often as it is met; a slice's spare places count too). A statement '..UptoSaid' is the law's where the arguments, and the package variables that the reading takes, are together of bulk at most 1048576: NARROWER than '..Said'. Prove '..Said' where nothing that the law and all that it calls make is longer than what came in: it says more and counts as full. Else prove '..UptoSaid'. A law counts once. -/
mutual
def uptoBulk {H : Type} : DataW H → Nat
  | .lit (.string bytes) => bytes.length + 1
  | .lit _ => 1
  | .nil => 1
  | .ptr d => uptoBulk d + 1
  | .slice elems spare => uptoBulkAll elems + uptoBulkAll spare + 1
  | .agg parts => uptoBulkAll parts + 1
  | .iface _ d => uptoBulk d + 1
  | .map entries => uptoBulkEntries entries + 1
  | .held _ => 1
def uptoBulkAll {H : Type} : List (DataW H) → Nat
  | [] => 0
  | d :: r => uptoBulk d + uptoBulkAll r
def uptoBulkEntries {H : Type} : List (Lit × DataW H) → Nat
  | [] => 0
  | x :: r => uptoBulkEntry x + uptoBulkEntries r
def uptoBulkEntry {H : Type} : Lit × DataW H → Nat
  | (.string bytes, d) => bytes.length + uptoBulk d + 1
  | (_, d) => uptoBulk d + 1
 end
def uptoSmall : (H : Type) → List (DataW H) → Bool := fun _ ds => decide (uptoBulkAll ds ≤ 1048576)
def OpenSpec.upto (s : _root_.Go.ChangeSpec) : _root_.Go.OpenSpec := { _root_.Go.OpenSpec.ofChange s with cond := some uptoSmall }

/-- 'tripwirelaw03.CodeOrders', WHERE WHAT IT READS IS OF BULK AT MOST 1048576: true; the input reads as it did. -/
def codeOrdersUptoRow : OpenClaim := { program := "ytmjfninbnlhmoaadoor", sum := "caba60b1061066c665a447eb5c0adb09e96baecd590d5c50239053c4952f39db", func := "tripwire/tripwirelaw03.CodeOrders", spec := "codeOrders", inPlace := ["internal/bytealg.CountString", "internal/bytealg.IndexByteString", "internal/bytealg.IndexString", "internal/abi.NoEscape", "internal/bytealg.MakeNoZero"], unfollowed := true, recurses := true, named := ["internal/bytealg.MaxLen", "unicode/utf8.first", "unicode/utf8.acceptRanges"], apart := false, laid := [("unicode/utf8.acceptRanges", laid_unicode_utf8_acceptRanges), ("unicode/utf8.first", laid_unicode_utf8_first)], narrowed := true }
def CodeOrdersUptoSaid : Prop := codeOrdersUptoRow.holds Tryd.pinned (OpenSpec.upto codeOrdersSpec)

/-- 'tripwirelaw03.CodeNexts', WHERE WHAT IT READS IS OF BULK AT MOST 1048576: true; the input reads as it did. -/
def codeNextsUptoRow : OpenClaim := { program := "ytmjfninbnlhmoaadoor", sum := "caba60b1061066c665a447eb5c0adb09e96baecd590d5c50239053c4952f39db", func := "tripwire/tripwirelaw03.CodeNexts", spec := "codeNexts", inPlace := ["internal/bytealg.CountString", "internal/bytealg.IndexByteString", "internal/bytealg.IndexString", "internal/abi.NoEscape", "internal/bytealg.MakeNoZero"], unfollowed := true, recurses := true, named := ["internal/bytealg.MaxLen", "unicode/utf8.first", "unicode/utf8.acceptRanges"], apart := false, laid := [("unicode/utf8.acceptRanges", laid_unicode_utf8_acceptRanges), ("unicode/utf8.first", laid_unicode_utf8_first)], narrowed := true }
def CodeNextsUptoSaid : Prop := codeNextsUptoRow.holds Tryd.pinned (OpenSpec.upto codeNextsSpec)

/-- 'tripwirelaw03.CodeRanges', WHERE WHAT IT READS IS OF BULK AT MOST 1048576: true; the input reads as it did. -/
def codeRangesUptoRow : OpenClaim := { program := "ytmjfninbnlhmoaadoor", sum := "caba60b1061066c665a447eb5c0adb09e96baecd590d5c50239053c4952f39db", func := "tripwire/tripwirelaw03.CodeRanges", spec := "codeRanges", inPlace := ["internal/bytealg.CountString", "internal/bytealg.IndexByteString", "internal/bytealg.IndexString", "internal/abi.NoEscape", "internal/bytealg.MakeNoZero"], unfollowed := true, recurses := true, named := ["internal/bytealg.MaxLen", "unicode/utf8.first", "unicode/utf8.acceptRanges"], apart := false, laid := [("unicode/utf8.acceptRanges", laid_unicode_utf8_acceptRanges), ("unicode/utf8.first", laid_unicode_utf8_first)], narrowed := true }
def CodeRangesUptoSaid : Prop := codeRangesUptoRow.holds Tryd.pinned (OpenSpec.upto codeRangesSpec)

/-- 'tripwirelaw03.CodeIds', WHERE WHAT IT READS IS OF BULK AT MOST 1048576: true; the input reads as it did. -/
def codeIdsUptoRow : OpenClaim := { program := "ytmjfninbnlhmoaadoor", sum := "caba60b1061066c665a447eb5c0adb09e96baecd590d5c50239053c4952f39db", func := "tripwire/tripwirelaw03.CodeIds", spec := "codeIds", inPlace := ["internal/bytealg.CountString", "internal/bytealg.IndexByteString", "internal/bytealg.IndexString", "internal/abi.NoEscape", "internal/bytealg.MakeNoZero"], unfollowed := true, recurses := true, named := ["internal/bytealg.MaxLen", "unicode/utf8.first", "unicode/utf8.acceptRanges"], apart := false, laid := [("unicode/utf8.acceptRanges", laid_unicode_utf8_acceptRanges), ("unicode/utf8.first", laid_unicode_utf8_first)], narrowed := true }
def CodeIdsUptoSaid : Prop := codeIdsUptoRow.holds Tryd.pinned (OpenSpec.upto codeIdsSpec)

/-- 'tripwirelaw03.CodeKeys', WHERE WHAT IT READS IS OF BULK AT MOST 1048576: true; the input reads as it did. -/
def codeKeysUptoRow : OpenClaim := { program := "ytmjfninbnlhmoaadoor", sum := "caba60b1061066c665a447eb5c0adb09e96baecd590d5c50239053c4952f39db", func := "tripwire/tripwirelaw03.CodeKeys", spec := "codeKeys", inPlace := ["internal/bytealg.CountString", "internal/bytealg.IndexByteString", "internal/bytealg.IndexString", "internal/abi.NoEscape", "internal/bytealg.MakeNoZero"], unfollowed := true, recurses := true, named := ["internal/bytealg.MaxLen", "unicode/utf8.first", "unicode/utf8.acceptRanges"], apart := false, laid := [("unicode/utf8.acceptRanges", laid_unicode_utf8_acceptRanges), ("unicode/utf8.first", laid_unicode_utf8_first)], narrowed := true }
def CodeKeysUptoSaid : Prop := codeKeysUptoRow.holds Tryd.pinned (OpenSpec.upto codeKeysSpec)

/-- 'tripwirelaw03.CodeReads', WHERE WHAT IT READS IS OF BULK AT MOST 1048576: true; the input reads as it did. -/
def codeReadsUptoRow : OpenClaim := { program := "ytmjfninbnlhmoaadoor", sum := "caba60b1061066c665a447eb5c0adb09e96baecd590d5c50239053c4952f39db", func := "tripwire/tripwirelaw03.CodeReads", spec := "codeReads", inPlace := ["internal/bytealg.CountString", "internal/bytealg.IndexByteString", "internal/bytealg.IndexString", "internal/abi.NoEscape", "internal/bytealg.MakeNoZero"], unfollowed := true, recurses := true, named := ["internal/bytealg.MaxLen", "unicode/utf8.first", "unicode/utf8.acceptRanges"], apart := false, laid := [("unicode/utf8.acceptRanges", laid_unicode_utf8_acceptRanges), ("unicode/utf8.first", laid_unicode_utf8_first)], narrowed := true }
def CodeReadsUptoSaid : Prop := codeReadsUptoRow.holds Tryd.pinned (OpenSpec.upto codeReadsSpec)

/-- 'tripwirelaw03.CodeRows', WHERE WHAT IT READS IS OF BULK AT MOST 1048576: true; the input reads as it did. -/
def codeRowsUptoRow : OpenClaim := { program := "ytmjfninbnlhmoaadoor", sum := "caba60b1061066c665a447eb5c0adb09e96baecd590d5c50239053c4952f39db", func := "tripwire/tripwirelaw03.CodeRows", spec := "codeRows", inPlace := ["internal/bytealg.CountString", "internal/bytealg.IndexByteString", "internal/bytealg.IndexString", "internal/abi.NoEscape", "internal/bytealg.MakeNoZero"], unfollowed := true, recurses := true, named := ["internal/bytealg.MaxLen", "unicode/utf8.first", "unicode/utf8.acceptRanges"], apart := false, laid := [("unicode/utf8.acceptRanges", laid_unicode_utf8_acceptRanges), ("unicode/utf8.first", laid_unicode_utf8_first)], narrowed := true }
def CodeRowsUptoSaid : Prop := codeRowsUptoRow.holds Tryd.pinned (OpenSpec.upto codeRowsSpec)

/-- 'tripwirelaw03.CodeUnrows', WHERE WHAT IT READS IS OF BULK AT MOST 1048576: true; the input reads as it did. -/
def codeUnrowsUptoRow : OpenClaim := { program := "ytmjfninbnlhmoaadoor", sum := "caba60b1061066c665a447eb5c0adb09e96baecd590d5c50239053c4952f39db", func := "tripwire/tripwirelaw03.CodeUnrows", spec := "codeUnrows", inPlace := ["internal/bytealg.CountString", "internal/bytealg.IndexByteString", "internal/bytealg.IndexString", "internal/abi.NoEscape", "internal/bytealg.MakeNoZero"], unfollowed := true, recurses := true, named := ["internal/bytealg.MaxLen", "unicode/utf8.first", "unicode/utf8.acceptRanges"], apart := false, laid := [("unicode/utf8.acceptRanges", laid_unicode_utf8_acceptRanges), ("unicode/utf8.first", laid_unicode_utf8_first)], narrowed := true }
def CodeUnrowsUptoSaid : Prop := codeUnrowsUptoRow.holds Tryd.pinned (OpenSpec.upto codeUnrowsSpec)

end Rows
end Go.Proofs.YtmjfninbnlhmoaaDoor
