/-
  NARROWER THAN 'FOR EVERY INPUT', by the rows' own cells (each row's printed sentence says how): WaveDifferences: laid · WaveWords: laid · WaveNumbers: laid · WaveBytes: laid · WavePacks: laid · WaveDecodes: laid · WavePlanned: laid · WaveReads: laid · WaveBacks: laid · WaveFewest: laid.
  DERIVED. THE GIVEN ROWS OF THIS SEAT. 10 by the template 'for every input the law returns true; each argument reads behind the call as it read before'; 0 by the template 'total and deterministic' (their statements: YteodljaphkpimaaDoorTotals.lean).
  GIVEN WITH THE SEED: the statements are not yours to turn. If you find one false, say at which input.
  Laid BY PROGRAM, IN A SANDBOX (cutbox-rows.mjs): the forced cells as the released guide's own fill.sh prints them over the translation b24fce272df4ca80… (all of the seat's roots in one cut). By AI agents, Wed Nov 11 2026. No macro, syntax, notation, axiom, sorry.
-/
import Derived.Test.YteodljaphkpimaaDoorChecked
import GoSem.PinnedTables
import GoSem.Claim
import GoSem.ClaimJoined
import GoSem.ClaimMapViews
import Derived.JoinedTies
import Derived.KernelRfl
namespace Go.Proofs.YteodljaphkpimaaDoor
/- THE CELL 'sum', in the pinned program and in every row, IS THE sha256 OF THE DUMP (.gsa) THAT YteodljaphkpimaaDoorProg.lean LOADS. Nothing in Lean hashes anything: it is a label: what it is worth is what the hold of that sum in a sandbox is worth. -/
noncomputable def Tryd.pinned : Pinned := { name := "yteodljaphkpimaadoor", sum := "b24fce272df4ca80b921a88252434de269c5c596023a11bcb80e544d59cff46a", checked := Tryd.checked }
namespace Rows
def none {H : Type} : Left H := { results := [], args := [] }

/- WHAT THE LISTED PACKAGE-LEVEL VARIABLES READ AS WHEN THE CALL BEGINS. Each datum BY PROGRAM (the guide's laid-datum.mjs) off the statement by which the dump's own 'gosem.cut.vars' lays the variable. In a bare row this is a premise. The card (YteodljaphkpimaaDoorCards.lean) ties it to the program's text. -/
def laid_unicode_utf8_acceptRanges {H : Type} : DataW H := .agg [.agg [.lit (.int .u8 128), .lit (.int .u8 191)], .agg [.lit (.int .u8 160), .lit (.int .u8 191)], .agg [.lit (.int .u8 128), .lit (.int .u8 159)], .agg [.lit (.int .u8 144), .lit (.int .u8 191)], .agg [.lit (.int .u8 128), .lit (.int .u8 143)], .agg [.lit (.int .u8 0), .lit (.int .u8 0)], .agg [.lit (.int .u8 0), .lit (.int .u8 0)], .agg [.lit (.int .u8 0), .lit (.int .u8 0)], .agg [.lit (.int .u8 0), .lit (.int .u8 0)], .agg [.lit (.int .u8 0), .lit (.int .u8 0)], .agg [.lit (.int .u8 0), .lit (.int .u8 0)], .agg [.lit (.int .u8 0), .lit (.int .u8 0)], .agg [.lit (.int .u8 0), .lit (.int .u8 0)], .agg [.lit (.int .u8 0), .lit (.int .u8 0)], .agg [.lit (.int .u8 0), .lit (.int .u8 0)], .agg [.lit (.int .u8 0), .lit (.int .u8 0)]]
/-- One of Go's own tables, pinned by name: the form's constant. -/
def laid_unicode_utf8_first : DataW Unit := Go.Pinned.utf8First

/-- 'firnlaw03.WaveDifferences': WHATEVER THE INPUT: true; the input reads as it did. -/
def waveDifferencesSpec : ChangeSpec := { name := "waveDifferences", fn := fun _ => fun
  | [d1, d2, d3] => { results := [.lit (.bool true)], args := [d1, d2, d3] }
  | _ => none }
def waveDifferencesRow : OpenClaim := { program := "yteodljaphkpimaadoor", sum := "b24fce272df4ca80b921a88252434de269c5c596023a11bcb80e544d59cff46a", func := "firn/firnlaw03.WaveDifferences", spec := "waveDifferences", inPlace := ["internal/abi.NoEscape", "internal/bytealg.IndexByteString", "internal/bytealg.IndexString"], unfollowed := true, recurses := true, named := ["unicode/utf8.first", "unicode/utf8.acceptRanges", "internal/bytealg.MaxLen"], apart := false, laid := [("unicode/utf8.acceptRanges", laid_unicode_utf8_acceptRanges), ("unicode/utf8.first", laid_unicode_utf8_first)] }
def WaveDifferencesSaid : Prop := waveDifferencesRow.holds Tryd.pinned (OpenSpec.ofChange waveDifferencesSpec)

/-- ITS FALSE NEIGHBOUR: 'it returns false'. Refute it at one input. -/
def waveDifferencesWrong : ChangeSpec := { name := "waveDifferences", fn := fun _ => fun
  | [d1, d2, d3] => { results := [.lit (.bool false)], args := [d1, d2, d3] }
  | _ => none }
def WaveDifferencesWrongFalsely : Prop := waveDifferencesRow.holds Tryd.pinned (OpenSpec.ofChange waveDifferencesWrong)

/-- 'firnlaw03.WaveWords': WHATEVER THE INPUT: true; the input reads as it did. -/
def waveWordsSpec : ChangeSpec := { name := "waveWords", fn := fun _ => fun
  | [d1, d2, d3] => { results := [.lit (.bool true)], args := [d1, d2, d3] }
  | _ => none }
def waveWordsRow : OpenClaim := { program := "yteodljaphkpimaadoor", sum := "b24fce272df4ca80b921a88252434de269c5c596023a11bcb80e544d59cff46a", func := "firn/firnlaw03.WaveWords", spec := "waveWords", inPlace := ["internal/abi.NoEscape", "internal/bytealg.IndexByteString", "internal/bytealg.IndexString"], unfollowed := true, recurses := true, named := ["unicode/utf8.first", "unicode/utf8.acceptRanges", "internal/bytealg.MaxLen"], apart := false, laid := [("unicode/utf8.acceptRanges", laid_unicode_utf8_acceptRanges), ("unicode/utf8.first", laid_unicode_utf8_first)] }
def WaveWordsSaid : Prop := waveWordsRow.holds Tryd.pinned (OpenSpec.ofChange waveWordsSpec)

/-- ITS FALSE NEIGHBOUR: 'it returns false'. Refute it at one input. -/
def waveWordsWrong : ChangeSpec := { name := "waveWords", fn := fun _ => fun
  | [d1, d2, d3] => { results := [.lit (.bool false)], args := [d1, d2, d3] }
  | _ => none }
def WaveWordsWrongFalsely : Prop := waveWordsRow.holds Tryd.pinned (OpenSpec.ofChange waveWordsWrong)

/-- 'firnlaw03.WaveNumbers': WHATEVER THE INPUT: true; the input reads as it did. -/
def waveNumbersSpec : ChangeSpec := { name := "waveNumbers", fn := fun _ => fun
  | [d1, d2, d3] => { results := [.lit (.bool true)], args := [d1, d2, d3] }
  | _ => none }
def waveNumbersRow : OpenClaim := { program := "yteodljaphkpimaadoor", sum := "b24fce272df4ca80b921a88252434de269c5c596023a11bcb80e544d59cff46a", func := "firn/firnlaw03.WaveNumbers", spec := "waveNumbers", inPlace := ["internal/abi.NoEscape", "internal/bytealg.IndexByteString", "internal/bytealg.IndexString"], unfollowed := true, recurses := true, named := ["unicode/utf8.first", "unicode/utf8.acceptRanges", "internal/bytealg.MaxLen"], apart := false, laid := [("unicode/utf8.acceptRanges", laid_unicode_utf8_acceptRanges), ("unicode/utf8.first", laid_unicode_utf8_first)] }
def WaveNumbersSaid : Prop := waveNumbersRow.holds Tryd.pinned (OpenSpec.ofChange waveNumbersSpec)

/-- ITS FALSE NEIGHBOUR: 'it returns false'. Refute it at one input. -/
def waveNumbersWrong : ChangeSpec := { name := "waveNumbers", fn := fun _ => fun
  | [d1, d2, d3] => { results := [.lit (.bool false)], args := [d1, d2, d3] }
  | _ => none }
def WaveNumbersWrongFalsely : Prop := waveNumbersRow.holds Tryd.pinned (OpenSpec.ofChange waveNumbersWrong)

/-- 'firnlaw03.WaveBytes': WHATEVER THE INPUT: true; the input reads as it did. -/
def waveBytesSpec : ChangeSpec := { name := "waveBytes", fn := fun _ => fun
  | [d1, d2] => { results := [.lit (.bool true)], args := [d1, d2] }
  | _ => none }
def waveBytesRow : OpenClaim := { program := "yteodljaphkpimaadoor", sum := "b24fce272df4ca80b921a88252434de269c5c596023a11bcb80e544d59cff46a", func := "firn/firnlaw03.WaveBytes", spec := "waveBytes", inPlace := ["internal/abi.NoEscape", "internal/bytealg.IndexByteString", "internal/bytealg.IndexString"], unfollowed := true, recurses := true, named := ["unicode/utf8.first", "unicode/utf8.acceptRanges", "internal/bytealg.MaxLen"], apart := false, laid := [("unicode/utf8.acceptRanges", laid_unicode_utf8_acceptRanges), ("unicode/utf8.first", laid_unicode_utf8_first)] }
def WaveBytesSaid : Prop := waveBytesRow.holds Tryd.pinned (OpenSpec.ofChange waveBytesSpec)

/-- ITS FALSE NEIGHBOUR: 'it returns false'. Refute it at one input. -/
def waveBytesWrong : ChangeSpec := { name := "waveBytes", fn := fun _ => fun
  | [d1, d2] => { results := [.lit (.bool false)], args := [d1, d2] }
  | _ => none }
def WaveBytesWrongFalsely : Prop := waveBytesRow.holds Tryd.pinned (OpenSpec.ofChange waveBytesWrong)

/-- 'firnlaw03.WavePacks': WHATEVER THE INPUT: true; the input reads as it did. -/
def wavePacksSpec : ChangeSpec := { name := "wavePacks", fn := fun _ => fun
  | [d1, d2, d3, d4] => { results := [.lit (.bool true)], args := [d1, d2, d3, d4] }
  | _ => none }
def wavePacksRow : OpenClaim := { program := "yteodljaphkpimaadoor", sum := "b24fce272df4ca80b921a88252434de269c5c596023a11bcb80e544d59cff46a", func := "firn/firnlaw03.WavePacks", spec := "wavePacks", inPlace := ["internal/abi.NoEscape", "internal/bytealg.IndexByteString", "internal/bytealg.IndexString"], unfollowed := true, recurses := true, named := ["unicode/utf8.first", "unicode/utf8.acceptRanges", "internal/bytealg.MaxLen"], apart := false, laid := [("unicode/utf8.acceptRanges", laid_unicode_utf8_acceptRanges), ("unicode/utf8.first", laid_unicode_utf8_first)] }
def WavePacksSaid : Prop := wavePacksRow.holds Tryd.pinned (OpenSpec.ofChange wavePacksSpec)

/-- ITS FALSE NEIGHBOUR: 'it returns false'. Refute it at one input. -/
def wavePacksWrong : ChangeSpec := { name := "wavePacks", fn := fun _ => fun
  | [d1, d2, d3, d4] => { results := [.lit (.bool false)], args := [d1, d2, d3, d4] }
  | _ => none }
def WavePacksWrongFalsely : Prop := wavePacksRow.holds Tryd.pinned (OpenSpec.ofChange wavePacksWrong)

/-- 'firnlaw03.WaveDecodes': WHATEVER THE INPUT: true; the input reads as it did. -/
def waveDecodesSpec : ChangeSpec := { name := "waveDecodes", fn := fun _ => fun
  | [d1, d2] => { results := [.lit (.bool true)], args := [d1, d2] }
  | _ => none }
def waveDecodesRow : OpenClaim := { program := "yteodljaphkpimaadoor", sum := "b24fce272df4ca80b921a88252434de269c5c596023a11bcb80e544d59cff46a", func := "firn/firnlaw03.WaveDecodes", spec := "waveDecodes", inPlace := ["internal/abi.NoEscape", "internal/bytealg.IndexByteString", "internal/bytealg.IndexString"], unfollowed := true, recurses := true, named := ["unicode/utf8.first", "unicode/utf8.acceptRanges", "internal/bytealg.MaxLen"], apart := false, laid := [("unicode/utf8.acceptRanges", laid_unicode_utf8_acceptRanges), ("unicode/utf8.first", laid_unicode_utf8_first)] }
def WaveDecodesSaid : Prop := waveDecodesRow.holds Tryd.pinned (OpenSpec.ofChange waveDecodesSpec)

/-- ITS FALSE NEIGHBOUR: 'it returns false'. Refute it at one input. -/
def waveDecodesWrong : ChangeSpec := { name := "waveDecodes", fn := fun _ => fun
  | [d1, d2] => { results := [.lit (.bool false)], args := [d1, d2] }
  | _ => none }
def WaveDecodesWrongFalsely : Prop := waveDecodesRow.holds Tryd.pinned (OpenSpec.ofChange waveDecodesWrong)

/-- 'firnlaw03.WavePlanned': WHATEVER THE INPUT: true; the input reads as it did. -/
def wavePlannedSpec : ChangeSpec := { name := "wavePlanned", fn := fun _ => fun
  | [d1, d2] => { results := [.lit (.bool true)], args := [d1, d2] }
  | _ => none }
def wavePlannedRow : OpenClaim := { program := "yteodljaphkpimaadoor", sum := "b24fce272df4ca80b921a88252434de269c5c596023a11bcb80e544d59cff46a", func := "firn/firnlaw03.WavePlanned", spec := "wavePlanned", inPlace := ["internal/abi.NoEscape", "internal/bytealg.IndexByteString", "internal/bytealg.IndexString"], unfollowed := true, recurses := true, named := ["unicode/utf8.first", "unicode/utf8.acceptRanges", "internal/bytealg.MaxLen"], apart := false, laid := [("unicode/utf8.acceptRanges", laid_unicode_utf8_acceptRanges), ("unicode/utf8.first", laid_unicode_utf8_first)] }
def WavePlannedSaid : Prop := wavePlannedRow.holds Tryd.pinned (OpenSpec.ofChange wavePlannedSpec)

/-- ITS FALSE NEIGHBOUR: 'it returns false'. Refute it at one input. -/
def wavePlannedWrong : ChangeSpec := { name := "wavePlanned", fn := fun _ => fun
  | [d1, d2] => { results := [.lit (.bool false)], args := [d1, d2] }
  | _ => none }
def WavePlannedWrongFalsely : Prop := wavePlannedRow.holds Tryd.pinned (OpenSpec.ofChange wavePlannedWrong)

/-- 'firnlaw03.WaveReads': WHATEVER THE INPUT: true; the input reads as it did. -/
def waveReadsSpec : ChangeSpec := { name := "waveReads", fn := fun _ => fun
  | [d] => { results := [.lit (.bool true)], args := [d] }
  | _ => none }
def waveReadsRow : OpenClaim := { program := "yteodljaphkpimaadoor", sum := "b24fce272df4ca80b921a88252434de269c5c596023a11bcb80e544d59cff46a", func := "firn/firnlaw03.WaveReads", spec := "waveReads", inPlace := ["internal/abi.NoEscape", "internal/bytealg.IndexByteString", "internal/bytealg.IndexString"], unfollowed := true, recurses := true, named := ["unicode/utf8.first", "unicode/utf8.acceptRanges", "internal/bytealg.MaxLen"], apart := false, laid := [("unicode/utf8.acceptRanges", laid_unicode_utf8_acceptRanges), ("unicode/utf8.first", laid_unicode_utf8_first)] }
def WaveReadsSaid : Prop := waveReadsRow.holds Tryd.pinned (OpenSpec.ofChange waveReadsSpec)

/-- ITS FALSE NEIGHBOUR: 'it returns false'. Refute it at one input. -/
def waveReadsWrong : ChangeSpec := { name := "waveReads", fn := fun _ => fun
  | [d] => { results := [.lit (.bool false)], args := [d] }
  | _ => none }
def WaveReadsWrongFalsely : Prop := waveReadsRow.holds Tryd.pinned (OpenSpec.ofChange waveReadsWrong)

/-- 'firnlaw03.WaveBacks': WHATEVER THE INPUT: true; the input reads as it did. -/
def waveBacksSpec : ChangeSpec := { name := "waveBacks", fn := fun _ => fun
  | [d] => { results := [.lit (.bool true)], args := [d] }
  | _ => none }
def waveBacksRow : OpenClaim := { program := "yteodljaphkpimaadoor", sum := "b24fce272df4ca80b921a88252434de269c5c596023a11bcb80e544d59cff46a", func := "firn/firnlaw03.WaveBacks", spec := "waveBacks", inPlace := ["internal/abi.NoEscape", "internal/bytealg.IndexByteString", "internal/bytealg.IndexString"], unfollowed := true, recurses := true, named := ["unicode/utf8.first", "unicode/utf8.acceptRanges", "internal/bytealg.MaxLen"], apart := false, laid := [("unicode/utf8.acceptRanges", laid_unicode_utf8_acceptRanges), ("unicode/utf8.first", laid_unicode_utf8_first)] }
def WaveBacksSaid : Prop := waveBacksRow.holds Tryd.pinned (OpenSpec.ofChange waveBacksSpec)

/-- ITS FALSE NEIGHBOUR: 'it returns false'. Refute it at one input. -/
def waveBacksWrong : ChangeSpec := { name := "waveBacks", fn := fun _ => fun
  | [d] => { results := [.lit (.bool false)], args := [d] }
  | _ => none }
def WaveBacksWrongFalsely : Prop := waveBacksRow.holds Tryd.pinned (OpenSpec.ofChange waveBacksWrong)

/-- 'firnlaw03.WaveFewest': WHATEVER THE INPUT: true; the input reads as it did. -/
def waveFewestSpec : ChangeSpec := { name := "waveFewest", fn := fun _ => fun
  | [d1, d2, d3] => { results := [.lit (.bool true)], args := [d1, d2, d3] }
  | _ => none }
def waveFewestRow : OpenClaim := { program := "yteodljaphkpimaadoor", sum := "b24fce272df4ca80b921a88252434de269c5c596023a11bcb80e544d59cff46a", func := "firn/firnlaw03.WaveFewest", spec := "waveFewest", inPlace := ["internal/abi.NoEscape", "internal/bytealg.IndexByteString", "internal/bytealg.IndexString"], unfollowed := true, recurses := true, named := ["unicode/utf8.first", "unicode/utf8.acceptRanges", "internal/bytealg.MaxLen"], apart := false, laid := [("unicode/utf8.acceptRanges", laid_unicode_utf8_acceptRanges), ("unicode/utf8.first", laid_unicode_utf8_first)] }
def WaveFewestSaid : Prop := waveFewestRow.holds Tryd.pinned (OpenSpec.ofChange waveFewestSpec)

/-- ITS FALSE NEIGHBOUR: 'it returns false'. Refute it at one input. -/
def waveFewestWrong : ChangeSpec := { name := "waveFewest", fn := fun _ => fun
  | [d1, d2, d3] => { results := [.lit (.bool false)], args := [d1, d2, d3] }
  | _ => none }
def WaveFewestWrongFalsely : Prop := waveFewestRow.holds Tryd.pinned (OpenSpec.ofChange waveFewestWrong)

/- THE SECOND FORM. 'bulk': how many values and letters a reading holds, each counted each time it is reached (what is shared counts as often as it is met; a slice's spare places count too). A statement '..UptoSaid' is the law's where the arguments, and the package variables that the reading takes, are together of bulk at most 1048576: NARROWER than '..Said'. Prove '..Said' where nothing that the law and all that it calls make is longer than what came in: it says more and counts as full. Else prove '..UptoSaid'. A law counts once. -/
mutual
def uptoBulk {H : Type} : DataW H → Nat
  | .lit (.string bytes) => bytes.length + 1
  | .lit _ => 1
  | .nil => 1
  | .ptr d => uptoBulk d + 1
  | .slice elems spare => uptoBulkAll elems + uptoBulkAll spare + 1
  | .agg parts => uptoBulkAll parts + 1
  | .iface _ d => uptoBulk d + 1
  | .map entries => uptoBulkEntries entries + 1
  | .held _ => 1
def uptoBulkAll {H : Type} : List (DataW H) → Nat
  | [] => 0
  | d :: r => uptoBulk d + uptoBulkAll r
def uptoBulkEntries {H : Type} : List (Lit × DataW H) → Nat
  | [] => 0
  | x :: r => uptoBulkEntry x + uptoBulkEntries r
def uptoBulkEntry {H : Type} : Lit × DataW H → Nat
  | (.string bytes, d) => bytes.length + uptoBulk d + 1
  | (_, d) => uptoBulk d + 1
 end
def uptoSmall : (H : Type) → List (DataW H) → Bool := fun _ ds => decide (uptoBulkAll ds ≤ 1048576)
def OpenSpec.upto (s : _root_.Go.ChangeSpec) : _root_.Go.OpenSpec := { _root_.Go.OpenSpec.ofChange s with cond := some uptoSmall }

/-- 'firnlaw03.WaveDifferences', WHERE WHAT IT READS IS OF BULK AT MOST 1048576: true; the input reads as it did. -/
def waveDifferencesUptoRow : OpenClaim := { program := "yteodljaphkpimaadoor", sum := "b24fce272df4ca80b921a88252434de269c5c596023a11bcb80e544d59cff46a", func := "firn/firnlaw03.WaveDifferences", spec := "waveDifferences", inPlace := ["internal/abi.NoEscape", "internal/bytealg.IndexByteString", "internal/bytealg.IndexString"], unfollowed := true, recurses := true, named := ["unicode/utf8.first", "unicode/utf8.acceptRanges", "internal/bytealg.MaxLen"], apart := false, laid := [("unicode/utf8.acceptRanges", laid_unicode_utf8_acceptRanges), ("unicode/utf8.first", laid_unicode_utf8_first)], narrowed := true }
def WaveDifferencesUptoSaid : Prop := waveDifferencesUptoRow.holds Tryd.pinned (OpenSpec.upto waveDifferencesSpec)

/-- 'firnlaw03.WaveWords', WHERE WHAT IT READS IS OF BULK AT MOST 1048576: true; the input reads as it did. -/
def waveWordsUptoRow : OpenClaim := { program := "yteodljaphkpimaadoor", sum := "b24fce272df4ca80b921a88252434de269c5c596023a11bcb80e544d59cff46a", func := "firn/firnlaw03.WaveWords", spec := "waveWords", inPlace := ["internal/abi.NoEscape", "internal/bytealg.IndexByteString", "internal/bytealg.IndexString"], unfollowed := true, recurses := true, named := ["unicode/utf8.first", "unicode/utf8.acceptRanges", "internal/bytealg.MaxLen"], apart := false, laid := [("unicode/utf8.acceptRanges", laid_unicode_utf8_acceptRanges), ("unicode/utf8.first", laid_unicode_utf8_first)], narrowed := true }
def WaveWordsUptoSaid : Prop := waveWordsUptoRow.holds Tryd.pinned (OpenSpec.upto waveWordsSpec)

/-- 'firnlaw03.WaveNumbers', WHERE WHAT IT READS IS OF BULK AT MOST 1048576: true; the input reads as it did. -/
def waveNumbersUptoRow : OpenClaim := { program := "yteodljaphkpimaadoor", sum := "b24fce272df4ca80b921a88252434de269c5c596023a11bcb80e544d59cff46a", func := "firn/firnlaw03.WaveNumbers", spec := "waveNumbers", inPlace := ["internal/abi.NoEscape", "internal/bytealg.IndexByteString", "internal/bytealg.IndexString"], unfollowed := true, recurses := true, named := ["unicode/utf8.first", "unicode/utf8.acceptRanges", "internal/bytealg.MaxLen"], apart := false, laid := [("unicode/utf8.acceptRanges", laid_unicode_utf8_acceptRanges), ("unicode/utf8.first", laid_unicode_utf8_first)], narrowed := true }
def WaveNumbersUptoSaid : Prop := waveNumbersUptoRow.holds Tryd.pinned (OpenSpec.upto waveNumbersSpec)

/-- 'firnlaw03.WaveBytes', WHERE WHAT IT READS IS OF BULK AT MOST 1048576: true; the input reads as it did. -/
def waveBytesUptoRow : OpenClaim := { program := "yteodljaphkpimaadoor", sum := "b24fce272df4ca80b921a88252434de269c5c596023a11bcb80e544d59cff46a", func := "firn/firnlaw03.WaveBytes", spec := "waveBytes", inPlace := ["internal/abi.NoEscape", "internal/bytealg.IndexByteString", "internal/bytealg.IndexString"], unfollowed := true, recurses := true, named := ["unicode/utf8.first", "unicode/utf8.acceptRanges", "internal/bytealg.MaxLen"], apart := false, laid := [("unicode/utf8.acceptRanges", laid_unicode_utf8_acceptRanges), ("unicode/utf8.first", laid_unicode_utf8_first)], narrowed := true }
def WaveBytesUptoSaid : Prop := waveBytesUptoRow.holds Tryd.pinned (OpenSpec.upto waveBytesSpec)

/-- 'firnlaw03.WavePacks', WHERE WHAT IT READS IS OF BULK AT MOST 1048576: true; the input reads as it did. -/
def wavePacksUptoRow : OpenClaim := { program := "yteodljaphkpimaadoor", sum := "b24fce272df4ca80b921a88252434de269c5c596023a11bcb80e544d59cff46a", func := "firn/firnlaw03.WavePacks", spec := "wavePacks", inPlace := ["internal/abi.NoEscape", "internal/bytealg.IndexByteString", "internal/bytealg.IndexString"], unfollowed := true, recurses := true, named := ["unicode/utf8.first", "unicode/utf8.acceptRanges", "internal/bytealg.MaxLen"], apart := false, laid := [("unicode/utf8.acceptRanges", laid_unicode_utf8_acceptRanges), ("unicode/utf8.first", laid_unicode_utf8_first)], narrowed := true }
def WavePacksUptoSaid : Prop := wavePacksUptoRow.holds Tryd.pinned (OpenSpec.upto wavePacksSpec)

/-- 'firnlaw03.WaveDecodes', WHERE WHAT IT READS IS OF BULK AT MOST 1048576: true; the input reads as it did. -/
def waveDecodesUptoRow : OpenClaim := { program := "yteodljaphkpimaadoor", sum := "b24fce272df4ca80b921a88252434de269c5c596023a11bcb80e544d59cff46a", func := "firn/firnlaw03.WaveDecodes", spec := "waveDecodes", inPlace := ["internal/abi.NoEscape", "internal/bytealg.IndexByteString", "internal/bytealg.IndexString"], unfollowed := true, recurses := true, named := ["unicode/utf8.first", "unicode/utf8.acceptRanges", "internal/bytealg.MaxLen"], apart := false, laid := [("unicode/utf8.acceptRanges", laid_unicode_utf8_acceptRanges), ("unicode/utf8.first", laid_unicode_utf8_first)], narrowed := true }
def WaveDecodesUptoSaid : Prop := waveDecodesUptoRow.holds Tryd.pinned (OpenSpec.upto waveDecodesSpec)

/-- 'firnlaw03.WavePlanned', WHERE WHAT IT READS IS OF BULK AT MOST 1048576: true; the input reads as it did. -/
def wavePlannedUptoRow : OpenClaim := { program := "yteodljaphkpimaadoor", sum := "b24fce272df4ca80b921a88252434de269c5c596023a11bcb80e544d59cff46a", func := "firn/firnlaw03.WavePlanned", spec := "wavePlanned", inPlace := ["internal/abi.NoEscape", "internal/bytealg.IndexByteString", "internal/bytealg.IndexString"], unfollowed := true, recurses := true, named := ["unicode/utf8.first", "unicode/utf8.acceptRanges", "internal/bytealg.MaxLen"], apart := false, laid := [("unicode/utf8.acceptRanges", laid_unicode_utf8_acceptRanges), ("unicode/utf8.first", laid_unicode_utf8_first)], narrowed := true }
def WavePlannedUptoSaid : Prop := wavePlannedUptoRow.holds Tryd.pinned (OpenSpec.upto wavePlannedSpec)

/-- 'firnlaw03.WaveReads', WHERE WHAT IT READS IS OF BULK AT MOST 1048576: true; the input reads as it did. -/
def waveReadsUptoRow : OpenClaim := { program := "yteodljaphkpimaadoor", sum := "b24fce272df4ca80b921a88252434de269c5c596023a11bcb80e544d59cff46a", func := "firn/firnlaw03.WaveReads", spec := "waveReads", inPlace := ["internal/abi.NoEscape", "internal/bytealg.IndexByteString", "internal/bytealg.IndexString"], unfollowed := true, recurses := true, named := ["unicode/utf8.first", "unicode/utf8.acceptRanges", "internal/bytealg.MaxLen"], apart := false, laid := [("unicode/utf8.acceptRanges", laid_unicode_utf8_acceptRanges), ("unicode/utf8.first", laid_unicode_utf8_first)], narrowed := true }
def WaveReadsUptoSaid : Prop := waveReadsUptoRow.holds Tryd.pinned (OpenSpec.upto waveReadsSpec)

/-- 'firnlaw03.WaveBacks', WHERE WHAT IT READS IS OF BULK AT MOST 1048576: true; the input reads as it did. -/
def waveBacksUptoRow : OpenClaim := { program := "yteodljaphkpimaadoor", sum := "b24fce272df4ca80b921a88252434de269c5c596023a11bcb80e544d59cff46a", func := "firn/firnlaw03.WaveBacks", spec := "waveBacks", inPlace := ["internal/abi.NoEscape", "internal/bytealg.IndexByteString", "internal/bytealg.IndexString"], unfollowed := true, recurses := true, named := ["unicode/utf8.first", "unicode/utf8.acceptRanges", "internal/bytealg.MaxLen"], apart := false, laid := [("unicode/utf8.acceptRanges", laid_unicode_utf8_acceptRanges), ("unicode/utf8.first", laid_unicode_utf8_first)], narrowed := true }
def WaveBacksUptoSaid : Prop := waveBacksUptoRow.holds Tryd.pinned (OpenSpec.upto waveBacksSpec)

/-- 'firnlaw03.WaveFewest', WHERE WHAT IT READS IS OF BULK AT MOST 1048576: true; the input reads as it did. -/
def waveFewestUptoRow : OpenClaim := { program := "yteodljaphkpimaadoor", sum := "b24fce272df4ca80b921a88252434de269c5c596023a11bcb80e544d59cff46a", func := "firn/firnlaw03.WaveFewest", spec := "waveFewest", inPlace := ["internal/abi.NoEscape", "internal/bytealg.IndexByteString", "internal/bytealg.IndexString"], unfollowed := true, recurses := true, named := ["unicode/utf8.first", "unicode/utf8.acceptRanges", "internal/bytealg.MaxLen"], apart := false, laid := [("unicode/utf8.acceptRanges", laid_unicode_utf8_acceptRanges), ("unicode/utf8.first", laid_unicode_utf8_first)], narrowed := true }
def WaveFewestUptoSaid : Prop := waveFewestUptoRow.holds Tryd.pinned (OpenSpec.upto waveFewestSpec)

end Rows
end Go.Proofs.YteodljaphkpimaaDoor
