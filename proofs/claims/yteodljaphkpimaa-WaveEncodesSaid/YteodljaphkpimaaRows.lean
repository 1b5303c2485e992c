/-
  No cell of these rows narrows 'for every input' (looked for: loops, veiled, ifaces, maps, wideKeys, modest, calm, conditions, laid).
  DERIVED. THE GIVEN ROWS OF THIS SEAT. 3 by the template 'for every input the law returns true; each argument reads behind the call as it read before'; 0 by the template 'total and deterministic' (their statements: YteodljaphkpimaaTotals.lean).
  GIVEN WITH THE SEED: the statements are not yours to turn. If you find one false, say at which input.
  Laid BY PROGRAM, IN A SANDBOX (cutbox-rows.mjs): the forced cells as the released guide's own fill.sh prints them over the translation 5e2e370b33280bcc… (all of the seat's roots in one cut). By AI agents, Wed Nov 11 2026. No macro, syntax, notation, axiom, sorry.
-/
import Derived.Test.YteodljaphkpimaaChecked
import GoSem.Claim
import GoSem.ClaimJoined
import GoSem.ClaimMapViews
import Derived.JoinedTies
import Derived.KernelRfl
namespace Go.Proofs.Yteodljaphkpimaa
/- THE CELL 'sum', in the pinned program and in every row, IS THE sha256 OF THE DUMP (.gsa) THAT YteodljaphkpimaaProg.lean LOADS. Nothing in Lean hashes anything: it is a label: what it is worth is what the hold of that sum in a sandbox is worth. -/
noncomputable def Try.pinned : Pinned := { name := "yteodljaphkpimaa", sum := "5e2e370b33280bccfe09e88c34cbbaab1493bee3d54497975a9dff066cfe8788", checked := Try.checked }
namespace Rows
def none {H : Type} : Left H := { results := [], args := [] }

/-- 'firnlaw03.WaveQuiets': WHATEVER THE INPUT: true; the input reads as it did. -/
def waveQuietsSpec : ChangeSpec := { name := "waveQuiets", fn := fun _ => fun
  | [d1, d2] => { results := [.lit (.bool true)], args := [d1, d2] }
  | _ => none }
def waveQuietsRow : OpenClaim := { program := "yteodljaphkpimaa", sum := "5e2e370b33280bccfe09e88c34cbbaab1493bee3d54497975a9dff066cfe8788", func := "firn/firnlaw03.WaveQuiets", spec := "waveQuiets", inPlace := ["internal/abi.NoEscape"], unfollowed := true, recurses := true, apart := false }
def WaveQuietsSaid : Prop := waveQuietsRow.holds Try.pinned (OpenSpec.ofChange waveQuietsSpec)

/-- ITS FALSE NEIGHBOUR: 'it returns false'. Refute it at one input. -/
def waveQuietsWrong : ChangeSpec := { name := "waveQuiets", fn := fun _ => fun
  | [d1, d2] => { results := [.lit (.bool false)], args := [d1, d2] }
  | _ => none }
def WaveQuietsWrongFalsely : Prop := waveQuietsRow.holds Try.pinned (OpenSpec.ofChange waveQuietsWrong)

/-- 'firnlaw03.WavePlans': WHATEVER THE INPUT: true; the input reads as it did. -/
def wavePlansSpec : ChangeSpec := { name := "wavePlans", fn := fun _ => fun
  | [d1, d2] => { results := [.lit (.bool true)], args := [d1, d2] }
  | _ => none }
def wavePlansRow : OpenClaim := { program := "yteodljaphkpimaa", sum := "5e2e370b33280bccfe09e88c34cbbaab1493bee3d54497975a9dff066cfe8788", func := "firn/firnlaw03.WavePlans", spec := "wavePlans", inPlace := ["internal/abi.NoEscape"], unfollowed := true, recurses := true, apart := false }
def WavePlansSaid : Prop := wavePlansRow.holds Try.pinned (OpenSpec.ofChange wavePlansSpec)

/-- ITS FALSE NEIGHBOUR: 'it returns false'. Refute it at one input. -/
def wavePlansWrong : ChangeSpec := { name := "wavePlans", fn := fun _ => fun
  | [d1, d2] => { results := [.lit (.bool false)], args := [d1, d2] }
  | _ => none }
def WavePlansWrongFalsely : Prop := wavePlansRow.holds Try.pinned (OpenSpec.ofChange wavePlansWrong)

/-- 'firnlaw03.WaveEncodes': WHATEVER THE INPUT: true; the input reads as it did. -/
def waveEncodesSpec : ChangeSpec := { name := "waveEncodes", fn := fun _ => fun
  | [d] => { results := [.lit (.bool true)], args := [d] }
  | _ => none }
def waveEncodesRow : OpenClaim := { program := "yteodljaphkpimaa", sum := "5e2e370b33280bccfe09e88c34cbbaab1493bee3d54497975a9dff066cfe8788", func := "firn/firnlaw03.WaveEncodes", spec := "waveEncodes", inPlace := ["internal/abi.NoEscape"], unfollowed := true, recurses := true, apart := false }
def WaveEncodesSaid : Prop := waveEncodesRow.holds Try.pinned (OpenSpec.ofChange waveEncodesSpec)

/-- ITS FALSE NEIGHBOUR: 'it returns false'. Refute it at one input. -/
def waveEncodesWrong : ChangeSpec := { name := "waveEncodes", fn := fun _ => fun
  | [d] => { results := [.lit (.bool false)], args := [d] }
  | _ => none }
def WaveEncodesWrongFalsely : Prop := waveEncodesRow.holds Try.pinned (OpenSpec.ofChange waveEncodesWrong)

/- THE SECOND FORM. 'bulk': how many values and letters a reading holds, each counted each time it is reached (what is shared counts as often as it is met; a slice's spare places count too). A statement '..UptoSaid' is the law's where the arguments, and the package variables that the reading takes, are together of bulk at most 1048576: NARROWER than '..Said'. Prove '..Said' where nothing that the law and all that it calls make is longer than what came in: it says more and counts as full. Else prove '..UptoSaid'. A law counts once. -/
mutual
def uptoBulk {H : Type} : DataW H → Nat
  | .lit (.string bytes) => bytes.length + 1
  | .lit _ => 1
  | .nil => 1
  | .ptr d => uptoBulk d + 1
  | .slice elems spare => uptoBulkAll elems + uptoBulkAll spare + 1
  | .agg parts => uptoBulkAll parts + 1
  | .iface _ d => uptoBulk d + 1
  | .map entries => uptoBulkEntries entries + 1
  | .held _ => 1
def uptoBulkAll {H : Type} : List (DataW H) → Nat
  | [] => 0
  | d :: r => uptoBulk d + uptoBulkAll r
def uptoBulkEntries {H : Type} : List (Lit × DataW H) → Nat
  | [] => 0
  | x :: r => uptoBulkEntry x + uptoBulkEntries r
def uptoBulkEntry {H : Type} : Lit × DataW H → Nat
  | (.string bytes, d) => bytes.length + uptoBulk d + 1
  | (_, d) => uptoBulk d + 1
 end
def uptoSmall : (H : Type) → List (DataW H) → Bool := fun _ ds => decide (uptoBulkAll ds ≤ 1048576)
def OpenSpec.upto (s : _root_.Go.ChangeSpec) : _root_.Go.OpenSpec := { _root_.Go.OpenSpec.ofChange s with cond := some uptoSmall }

/-- 'firnlaw03.WaveQuiets', WHERE WHAT IT READS IS OF BULK AT MOST 1048576: true; the input reads as it did. -/
def waveQuietsUptoRow : OpenClaim := { program := "yteodljaphkpimaa", sum := "5e2e370b33280bccfe09e88c34cbbaab1493bee3d54497975a9dff066cfe8788", func := "firn/firnlaw03.WaveQuiets", spec := "waveQuiets", inPlace := ["internal/abi.NoEscape"], unfollowed := true, recurses := true, apart := false, narrowed := true }
def WaveQuietsUptoSaid : Prop := waveQuietsUptoRow.holds Try.pinned (OpenSpec.upto waveQuietsSpec)

/-- 'firnlaw03.WavePlans', WHERE WHAT IT READS IS OF BULK AT MOST 1048576: true; the input reads as it did. -/
def wavePlansUptoRow : OpenClaim := { program := "yteodljaphkpimaa", sum := "5e2e370b33280bccfe09e88c34cbbaab1493bee3d54497975a9dff066cfe8788", func := "firn/firnlaw03.WavePlans", spec := "wavePlans", inPlace := ["internal/abi.NoEscape"], unfollowed := true, recurses := true, apart := false, narrowed := true }
def WavePlansUptoSaid : Prop := wavePlansUptoRow.holds Try.pinned (OpenSpec.upto wavePlansSpec)

/-- 'firnlaw03.WaveEncodes', WHERE WHAT IT READS IS OF BULK AT MOST 1048576: true; the input reads as it did. -/
def waveEncodesUptoRow : OpenClaim := { program := "yteodljaphkpimaa", sum := "5e2e370b33280bccfe09e88c34cbbaab1493bee3d54497975a9dff066cfe8788", func := "firn/firnlaw03.WaveEncodes", spec := "waveEncodes", inPlace := ["internal/abi.NoEscape"], unfollowed := true, recurses := true, apart := false, narrowed := true }
def WaveEncodesUptoSaid : Prop := waveEncodesUptoRow.holds Try.pinned (OpenSpec.upto waveEncodesSpec)

end Rows
end Go.Proofs.Yteodljaphkpimaa
