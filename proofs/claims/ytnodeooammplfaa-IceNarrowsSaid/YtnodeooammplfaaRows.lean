/-
  No cell of these rows narrows 'for every input' (looked for: loops, veiled, ifaces, maps, wideKeys, modest, calm, conditions, laid).
  DERIVED. THE GIVEN ROWS OF THIS SEAT. 13 by the template 'for every input the law returns true; each argument reads behind the call as it read before'; 0 by the template 'total and deterministic' (their statements: YtnodeooammplfaaTotals.lean).
  GIVEN WITH THE SEED: the statements are not yours to turn. If you find one false, say at which input.
  Laid BY PROGRAM, IN A SANDBOX (cutbox-rows.mjs): the forced cells as the released guide's own fill.sh prints them over the translation da862c2b325eb64e… (all of the seat's roots in one cut). By AI agents, Wed Nov 11 2026. No macro, syntax, notation, axiom, sorry.
-/
import Derived.Test.YtnodeooammplfaaChecked
import GoSem.Claim
import GoSem.ClaimJoined
import GoSem.ClaimMapViews
import Derived.JoinedTies
import Derived.KernelRfl
namespace Go.Proofs.Ytnodeooammplfaa
/- THE CELL 'sum', in the pinned program and in every row, IS THE sha256 OF THE DUMP (.gsa) THAT YtnodeooammplfaaProg.lean LOADS. Nothing in Lean hashes anything: it is a label: what it is worth is what the hold of that sum in a sandbox is worth. -/
noncomputable def Try.pinned : Pinned := { name := "ytnodeooammplfaa", sum := "da862c2b325eb64e1a094d2a41229f2db82b6c3fb2818fba7adc5efb5012e24d", checked := Try.checked }
namespace Rows
def none {H : Type} : Left H := { results := [], args := [] }

/-- 'firnlaw04.IceLosses': WHATEVER THE INPUT: true; the input reads as it did. -/
def iceLossesSpec : ChangeSpec := { name := "iceLosses", fn := fun _ => fun
  | [d1, d2, d3] => { results := [.lit (.bool true)], args := [d1, d2, d3] }
  | _ => none }
def iceLossesRow : OpenClaim := { program := "ytnodeooammplfaa", sum := "da862c2b325eb64e1a094d2a41229f2db82b6c3fb2818fba7adc5efb5012e24d", func := "firn/firnlaw04.IceLosses", spec := "iceLosses", unfollowed := true, recurses := true, apart := false }
def IceLossesSaid : Prop := iceLossesRow.holds Try.pinned (OpenSpec.ofChange iceLossesSpec)

/-- ITS FALSE NEIGHBOUR: 'it returns false'. Refute it at one input. -/
def iceLossesWrong : ChangeSpec := { name := "iceLosses", fn := fun _ => fun
  | [d1, d2, d3] => { results := [.lit (.bool false)], args := [d1, d2, d3] }
  | _ => none }
def IceLossesWrongFalsely : Prop := iceLossesRow.holds Try.pinned (OpenSpec.ofChange iceLossesWrong)

/-- 'firnlaw04.IceAdds': WHATEVER THE INPUT: true; the input reads as it did. -/
def iceAddsSpec : ChangeSpec := { name := "iceAdds", fn := fun _ => fun
  | [d1, d2] => { results := [.lit (.bool true)], args := [d1, d2] }
  | _ => none }
def iceAddsRow : OpenClaim := { program := "ytnodeooammplfaa", sum := "da862c2b325eb64e1a094d2a41229f2db82b6c3fb2818fba7adc5efb5012e24d", func := "firn/firnlaw04.IceAdds", spec := "iceAdds", unfollowed := true, recurses := true, apart := false }
def IceAddsSaid : Prop := iceAddsRow.holds Try.pinned (OpenSpec.ofChange iceAddsSpec)

/-- ITS FALSE NEIGHBOUR: 'it returns false'. Refute it at one input. -/
def iceAddsWrong : ChangeSpec := { name := "iceAdds", fn := fun _ => fun
  | [d1, d2] => { results := [.lit (.bool false)], args := [d1, d2] }
  | _ => none }
def IceAddsWrongFalsely : Prop := iceAddsRow.holds Try.pinned (OpenSpec.ofChange iceAddsWrong)

/-- 'firnlaw04.IceOthers': WHATEVER THE INPUT: true; the input reads as it did. -/
def iceOthersSpec : ChangeSpec := { name := "iceOthers", fn := fun _ => fun
  | [d] => { results := [.lit (.bool true)], args := [d] }
  | _ => none }
def iceOthersRow : OpenClaim := { program := "ytnodeooammplfaa", sum := "da862c2b325eb64e1a094d2a41229f2db82b6c3fb2818fba7adc5efb5012e24d", func := "firn/firnlaw04.IceOthers", spec := "iceOthers", unfollowed := true, recurses := true, apart := false }
def IceOthersSaid : Prop := iceOthersRow.holds Try.pinned (OpenSpec.ofChange iceOthersSpec)

/-- ITS FALSE NEIGHBOUR: 'it returns false'. Refute it at one input. -/
def iceOthersWrong : ChangeSpec := { name := "iceOthers", fn := fun _ => fun
  | [d] => { results := [.lit (.bool false)], args := [d] }
  | _ => none }
def IceOthersWrongFalsely : Prop := iceOthersRow.holds Try.pinned (OpenSpec.ofChange iceOthersWrong)

/-- 'firnlaw04.IceReaches': WHATEVER THE INPUT: true; the input reads as it did. -/
def iceReachesSpec : ChangeSpec := { name := "iceReaches", fn := fun _ => fun
  | [d1, d2, d3] => { results := [.lit (.bool true)], args := [d1, d2, d3] }
  | _ => none }
def iceReachesRow : OpenClaim := { program := "ytnodeooammplfaa", sum := "da862c2b325eb64e1a094d2a41229f2db82b6c3fb2818fba7adc5efb5012e24d", func := "firn/firnlaw04.IceReaches", spec := "iceReaches", unfollowed := true, recurses := true, apart := false }
def IceReachesSaid : Prop := iceReachesRow.holds Try.pinned (OpenSpec.ofChange iceReachesSpec)

/-- ITS FALSE NEIGHBOUR: 'it returns false'. Refute it at one input. -/
def iceReachesWrong : ChangeSpec := { name := "iceReaches", fn := fun _ => fun
  | [d1, d2, d3] => { results := [.lit (.bool false)], args := [d1, d2, d3] }
  | _ => none }
def IceReachesWrongFalsely : Prop := iceReachesRow.holds Try.pinned (OpenSpec.ofChange iceReachesWrong)

/-- 'firnlaw04.IceLeasts': WHATEVER THE INPUT: true; the input reads as it did. -/
def iceLeastsSpec : ChangeSpec := { name := "iceLeasts", fn := fun _ => fun
  | [d1, d2] => { results := [.lit (.bool true)], args := [d1, d2] }
  | _ => none }
def iceLeastsRow : OpenClaim := { program := "ytnodeooammplfaa", sum := "da862c2b325eb64e1a094d2a41229f2db82b6c3fb2818fba7adc5efb5012e24d", func := "firn/firnlaw04.IceLeasts", spec := "iceLeasts", unfollowed := true, recurses := true, apart := false }
def IceLeastsSaid : Prop := iceLeastsRow.holds Try.pinned (OpenSpec.ofChange iceLeastsSpec)

/-- ITS FALSE NEIGHBOUR: 'it returns false'. Refute it at one input. -/
def iceLeastsWrong : ChangeSpec := { name := "iceLeasts", fn := fun _ => fun
  | [d1, d2] => { results := [.lit (.bool false)], args := [d1, d2] }
  | _ => none }
def IceLeastsWrongFalsely : Prop := iceLeastsRow.holds Try.pinned (OpenSpec.ofChange iceLeastsWrong)

/-- 'firnlaw04.IceLights': WHATEVER THE INPUT: true; the input reads as it did. -/
def iceLightsSpec : ChangeSpec := { name := "iceLights", fn := fun _ => fun
  | [d1, d2, d3] => { results := [.lit (.bool true)], args := [d1, d2, d3] }
  | _ => none }
def iceLightsRow : OpenClaim := { program := "ytnodeooammplfaa", sum := "da862c2b325eb64e1a094d2a41229f2db82b6c3fb2818fba7adc5efb5012e24d", func := "firn/firnlaw04.IceLights", spec := "iceLights", unfollowed := true, recurses := true, apart := false }
def IceLightsSaid : Prop := iceLightsRow.holds Try.pinned (OpenSpec.ofChange iceLightsSpec)

/-- ITS FALSE NEIGHBOUR: 'it returns false'. Refute it at one input. -/
def iceLightsWrong : ChangeSpec := { name := "iceLights", fn := fun _ => fun
  | [d1, d2, d3] => { results := [.lit (.bool false)], args := [d1, d2, d3] }
  | _ => none }
def IceLightsWrongFalsely : Prop := iceLightsRow.holds Try.pinned (OpenSpec.ofChange iceLightsWrong)

/-- 'firnlaw04.IceBetweens': WHATEVER THE INPUT: true; the input reads as it did. -/
def iceBetweensSpec : ChangeSpec := { name := "iceBetweens", fn := fun _ => fun
  | [d1, d2, d3] => { results := [.lit (.bool true)], args := [d1, d2, d3] }
  | _ => none }
def iceBetweensRow : OpenClaim := { program := "ytnodeooammplfaa", sum := "da862c2b325eb64e1a094d2a41229f2db82b6c3fb2818fba7adc5efb5012e24d", func := "firn/firnlaw04.IceBetweens", spec := "iceBetweens", unfollowed := true, recurses := true, apart := false }
def IceBetweensSaid : Prop := iceBetweensRow.holds Try.pinned (OpenSpec.ofChange iceBetweensSpec)

/-- ITS FALSE NEIGHBOUR: 'it returns false'. Refute it at one input. -/
def iceBetweensWrong : ChangeSpec := { name := "iceBetweens", fn := fun _ => fun
  | [d1, d2, d3] => { results := [.lit (.bool false)], args := [d1, d2, d3] }
  | _ => none }
def IceBetweensWrongFalsely : Prop := iceBetweensRow.holds Try.pinned (OpenSpec.ofChange iceBetweensWrong)

/-- 'firnlaw04.IceNarrows': WHATEVER THE INPUT: true; the input reads as it did. -/
def iceNarrowsSpec : ChangeSpec := { name := "iceNarrows", fn := fun _ => fun
  | [d1, d2, d3] => { results := [.lit (.bool true)], args := [d1, d2, d3] }
  | _ => none }
def iceNarrowsRow : OpenClaim := { program := "ytnodeooammplfaa", sum := "da862c2b325eb64e1a094d2a41229f2db82b6c3fb2818fba7adc5efb5012e24d", func := "firn/firnlaw04.IceNarrows", spec := "iceNarrows", unfollowed := true, recurses := true, apart := false }
def IceNarrowsSaid : Prop := iceNarrowsRow.holds Try.pinned (OpenSpec.ofChange iceNarrowsSpec)

/-- ITS FALSE NEIGHBOUR: 'it returns false'. Refute it at one input. -/
def iceNarrowsWrong : ChangeSpec := { name := "iceNarrows", fn := fun _ => fun
  | [d1, d2, d3] => { results := [.lit (.bool false)], args := [d1, d2, d3] }
  | _ => none }
def IceNarrowsWrongFalsely : Prop := iceNarrowsRow.holds Try.pinned (OpenSpec.ofChange iceNarrowsWrong)

/-- 'firnlaw04.IceFewest': WHATEVER THE INPUT: true; the input reads as it did. -/
def iceFewestSpec : ChangeSpec := { name := "iceFewest", fn := fun _ => fun
  | [d1, d2] => { results := [.lit (.bool true)], args := [d1, d2] }
  | _ => none }
def iceFewestRow : OpenClaim := { program := "ytnodeooammplfaa", sum := "da862c2b325eb64e1a094d2a41229f2db82b6c3fb2818fba7adc5efb5012e24d", func := "firn/firnlaw04.IceFewest", spec := "iceFewest", unfollowed := true, recurses := true, apart := false }
def IceFewestSaid : Prop := iceFewestRow.holds Try.pinned (OpenSpec.ofChange iceFewestSpec)

/-- ITS FALSE NEIGHBOUR: 'it returns false'. Refute it at one input. -/
def iceFewestWrong : ChangeSpec := { name := "iceFewest", fn := fun _ => fun
  | [d1, d2] => { results := [.lit (.bool false)], args := [d1, d2] }
  | _ => none }
def IceFewestWrongFalsely : Prop := iceFewestRow.holds Try.pinned (OpenSpec.ofChange iceFewestWrong)

/-- 'firnlaw04.IceDarks': WHATEVER THE INPUT: true; the input reads as it did. -/
def iceDarksSpec : ChangeSpec := { name := "iceDarks", fn := fun _ => fun
  | [d1, d2, d3] => { results := [.lit (.bool true)], args := [d1, d2, d3] }
  | _ => none }
def iceDarksRow : OpenClaim := { program := "ytnodeooammplfaa", sum := "da862c2b325eb64e1a094d2a41229f2db82b6c3fb2818fba7adc5efb5012e24d", func := "firn/firnlaw04.IceDarks", spec := "iceDarks", unfollowed := true, recurses := true, apart := false }
def IceDarksSaid : Prop := iceDarksRow.holds Try.pinned (OpenSpec.ofChange iceDarksSpec)

/-- ITS FALSE NEIGHBOUR: 'it returns false'. Refute it at one input. -/
def iceDarksWrong : ChangeSpec := { name := "iceDarks", fn := fun _ => fun
  | [d1, d2, d3] => { results := [.lit (.bool false)], args := [d1, d2, d3] }
  | _ => none }
def IceDarksWrongFalsely : Prop := iceDarksRow.holds Try.pinned (OpenSpec.ofChange iceDarksWrong)

/-- 'firnlaw04.IceLamps': WHATEVER THE INPUT: true; the input reads as it did. -/
def iceLampsSpec : ChangeSpec := { name := "iceLamps", fn := fun _ => fun
  | [d1, d2, d3] => { results := [.lit (.bool true)], args := [d1, d2, d3] }
  | _ => none }
def iceLampsRow : OpenClaim := { program := "ytnodeooammplfaa", sum := "da862c2b325eb64e1a094d2a41229f2db82b6c3fb2818fba7adc5efb5012e24d", func := "firn/firnlaw04.IceLamps", spec := "iceLamps", unfollowed := true, recurses := true, apart := false }
def IceLampsSaid : Prop := iceLampsRow.holds Try.pinned (OpenSpec.ofChange iceLampsSpec)

/-- ITS FALSE NEIGHBOUR: 'it returns false'. Refute it at one input. -/
def iceLampsWrong : ChangeSpec := { name := "iceLamps", fn := fun _ => fun
  | [d1, d2, d3] => { results := [.lit (.bool false)], args := [d1, d2, d3] }
  | _ => none }
def IceLampsWrongFalsely : Prop := iceLampsRow.holds Try.pinned (OpenSpec.ofChange iceLampsWrong)

/-- 'firnlaw04.IceTurns': WHATEVER THE INPUT: true; the input reads as it did. -/
def iceTurnsSpec : ChangeSpec := { name := "iceTurns", fn := fun _ => fun
  | [d1, d2, d3] => { results := [.lit (.bool true)], args := [d1, d2, d3] }
  | _ => none }
def iceTurnsRow : OpenClaim := { program := "ytnodeooammplfaa", sum := "da862c2b325eb64e1a094d2a41229f2db82b6c3fb2818fba7adc5efb5012e24d", func := "firn/firnlaw04.IceTurns", spec := "iceTurns", unfollowed := true, recurses := true, apart := false }
def IceTurnsSaid : Prop := iceTurnsRow.holds Try.pinned (OpenSpec.ofChange iceTurnsSpec)

/-- ITS FALSE NEIGHBOUR: 'it returns false'. Refute it at one input. -/
def iceTurnsWrong : ChangeSpec := { name := "iceTurns", fn := fun _ => fun
  | [d1, d2, d3] => { results := [.lit (.bool false)], args := [d1, d2, d3] }
  | _ => none }
def IceTurnsWrongFalsely : Prop := iceTurnsRow.holds Try.pinned (OpenSpec.ofChange iceTurnsWrong)

/-- 'firnlaw04.IceProofs': WHATEVER THE INPUT: true; the input reads as it did. -/
def iceProofsSpec : ChangeSpec := { name := "iceProofs", fn := fun _ => fun
  | [d1, d2, d3] => { results := [.lit (.bool true)], args := [d1, d2, d3] }
  | _ => none }
def iceProofsRow : OpenClaim := { program := "ytnodeooammplfaa", sum := "da862c2b325eb64e1a094d2a41229f2db82b6c3fb2818fba7adc5efb5012e24d", func := "firn/firnlaw04.IceProofs", spec := "iceProofs", unfollowed := true, recurses := true, apart := false }
def IceProofsSaid : Prop := iceProofsRow.holds Try.pinned (OpenSpec.ofChange iceProofsSpec)

/-- ITS FALSE NEIGHBOUR: 'it returns false'. Refute it at one input. -/
def iceProofsWrong : ChangeSpec := { name := "iceProofs", fn := fun _ => fun
  | [d1, d2, d3] => { results := [.lit (.bool false)], args := [d1, d2, d3] }
  | _ => none }
def IceProofsWrongFalsely : Prop := iceProofsRow.holds Try.pinned (OpenSpec.ofChange iceProofsWrong)

/- THE SECOND FORM. 'bulk': how many values and letters a reading holds, each counted each time it is reached (what is shared counts as often as it is met; a slice's spare places count too). A statement '..UptoSaid' is the law's where the arguments, and the package variables that the reading takes, are together of bulk at most 1048576: NARROWER than '..Said'. Prove '..Said' where nothing that the law and all that it calls make is longer than what came in: it says more and counts as full. Else prove '..UptoSaid'. A law counts once. -/
mutual
def uptoBulk {H : Type} : DataW H → Nat
  | .lit (.string bytes) => bytes.length + 1
  | .lit _ => 1
  | .nil => 1
  | .ptr d => uptoBulk d + 1
  | .slice elems spare => uptoBulkAll elems + uptoBulkAll spare + 1
  | .agg parts => uptoBulkAll parts + 1
  | .iface _ d => uptoBulk d + 1
  | .map entries => uptoBulkEntries entries + 1
  | .held _ => 1
def uptoBulkAll {H : Type} : List (DataW H) → Nat
  | [] => 0
  | d :: r => uptoBulk d + uptoBulkAll r
def uptoBulkEntries {H : Type} : List (Lit × DataW H) → Nat
  | [] => 0
  | x :: r => uptoBulkEntry x + uptoBulkEntries r
def uptoBulkEntry {H : Type} : Lit × DataW H → Nat
  | (.string bytes, d) => bytes.length + uptoBulk d + 1
  | (_, d) => uptoBulk d + 1
 end
def uptoSmall : (H : Type) → List (DataW H) → Bool := fun _ ds => decide (uptoBulkAll ds ≤ 1048576)
def OpenSpec.upto (s : _root_.Go.ChangeSpec) : _root_.Go.OpenSpec := { _root_.Go.OpenSpec.ofChange s with cond := some uptoSmall }

/-- 'firnlaw04.IceLosses', WHERE WHAT IT READS IS OF BULK AT MOST 1048576: true; the input reads as it did. -/
def iceLossesUptoRow : OpenClaim := { program := "ytnodeooammplfaa", sum := "da862c2b325eb64e1a094d2a41229f2db82b6c3fb2818fba7adc5efb5012e24d", func := "firn/firnlaw04.IceLosses", spec := "iceLosses", unfollowed := true, recurses := true, apart := false, narrowed := true }
def IceLossesUptoSaid : Prop := iceLossesUptoRow.holds Try.pinned (OpenSpec.upto iceLossesSpec)

/-- 'firnlaw04.IceAdds', WHERE WHAT IT READS IS OF BULK AT MOST 1048576: true; the input reads as it did. -/
def iceAddsUptoRow : OpenClaim := { program := "ytnodeooammplfaa", sum := "da862c2b325eb64e1a094d2a41229f2db82b6c3fb2818fba7adc5efb5012e24d", func := "firn/firnlaw04.IceAdds", spec := "iceAdds", unfollowed := true, recurses := true, apart := false, narrowed := true }
def IceAddsUptoSaid : Prop := iceAddsUptoRow.holds Try.pinned (OpenSpec.upto iceAddsSpec)

/-- 'firnlaw04.IceOthers', WHERE WHAT IT READS IS OF BULK AT MOST 1048576: true; the input reads as it did. -/
def iceOthersUptoRow : OpenClaim := { program := "ytnodeooammplfaa", sum := "da862c2b325eb64e1a094d2a41229f2db82b6c3fb2818fba7adc5efb5012e24d", func := "firn/firnlaw04.IceOthers", spec := "iceOthers", unfollowed := true, recurses := true, apart := false, narrowed := true }
def IceOthersUptoSaid : Prop := iceOthersUptoRow.holds Try.pinned (OpenSpec.upto iceOthersSpec)

/-- 'firnlaw04.IceReaches', WHERE WHAT IT READS IS OF BULK AT MOST 1048576: true; the input reads as it did. -/
def iceReachesUptoRow : OpenClaim := { program := "ytnodeooammplfaa", sum := "da862c2b325eb64e1a094d2a41229f2db82b6c3fb2818fba7adc5efb5012e24d", func := "firn/firnlaw04.IceReaches", spec := "iceReaches", unfollowed := true, recurses := true, apart := false, narrowed := true }
def IceReachesUptoSaid : Prop := iceReachesUptoRow.holds Try.pinned (OpenSpec.upto iceReachesSpec)

/-- 'firnlaw04.IceLeasts', WHERE WHAT IT READS IS OF BULK AT MOST 1048576: true; the input reads as it did. -/
def iceLeastsUptoRow : OpenClaim := { program := "ytnodeooammplfaa", sum := "da862c2b325eb64e1a094d2a41229f2db82b6c3fb2818fba7adc5efb5012e24d", func := "firn/firnlaw04.IceLeasts", spec := "iceLeasts", unfollowed := true, recurses := true, apart := false, narrowed := true }
def IceLeastsUptoSaid : Prop := iceLeastsUptoRow.holds Try.pinned (OpenSpec.upto iceLeastsSpec)

/-- 'firnlaw04.IceLights', WHERE WHAT IT READS IS OF BULK AT MOST 1048576: true; the input reads as it did. -/
def iceLightsUptoRow : OpenClaim := { program := "ytnodeooammplfaa", sum := "da862c2b325eb64e1a094d2a41229f2db82b6c3fb2818fba7adc5efb5012e24d", func := "firn/firnlaw04.IceLights", spec := "iceLights", unfollowed := true, recurses := true, apart := false, narrowed := true }
def IceLightsUptoSaid : Prop := iceLightsUptoRow.holds Try.pinned (OpenSpec.upto iceLightsSpec)

/-- 'firnlaw04.IceBetweens', WHERE WHAT IT READS IS OF BULK AT MOST 1048576: true; the input reads as it did. -/
def iceBetweensUptoRow : OpenClaim := { program := "ytnodeooammplfaa", sum := "da862c2b325eb64e1a094d2a41229f2db82b6c3fb2818fba7adc5efb5012e24d", func := "firn/firnlaw04.IceBetweens", spec := "iceBetweens", unfollowed := true, recurses := true, apart := false, narrowed := true }
def IceBetweensUptoSaid : Prop := iceBetweensUptoRow.holds Try.pinned (OpenSpec.upto iceBetweensSpec)

/-- 'firnlaw04.IceNarrows', WHERE WHAT IT READS IS OF BULK AT MOST 1048576: true; the input reads as it did. -/
def iceNarrowsUptoRow : OpenClaim := { program := "ytnodeooammplfaa", sum := "da862c2b325eb64e1a094d2a41229f2db82b6c3fb2818fba7adc5efb5012e24d", func := "firn/firnlaw04.IceNarrows", spec := "iceNarrows", unfollowed := true, recurses := true, apart := false, narrowed := true }
def IceNarrowsUptoSaid : Prop := iceNarrowsUptoRow.holds Try.pinned (OpenSpec.upto iceNarrowsSpec)

/-- 'firnlaw04.IceFewest', WHERE WHAT IT READS IS OF BULK AT MOST 1048576: true; the input reads as it did. -/
def iceFewestUptoRow : OpenClaim := { program := "ytnodeooammplfaa", sum := "da862c2b325eb64e1a094d2a41229f2db82b6c3fb2818fba7adc5efb5012e24d", func := "firn/firnlaw04.IceFewest", spec := "iceFewest", unfollowed := true, recurses := true, apart := false, narrowed := true }
def IceFewestUptoSaid : Prop := iceFewestUptoRow.holds Try.pinned (OpenSpec.upto iceFewestSpec)

/-- 'firnlaw04.IceDarks', WHERE WHAT IT READS IS OF BULK AT MOST 1048576: true; the input reads as it did. -/
def iceDarksUptoRow : OpenClaim := { program := "ytnodeooammplfaa", sum := "da862c2b325eb64e1a094d2a41229f2db82b6c3fb2818fba7adc5efb5012e24d", func := "firn/firnlaw04.IceDarks", spec := "iceDarks", unfollowed := true, recurses := true, apart := false, narrowed := true }
def IceDarksUptoSaid : Prop := iceDarksUptoRow.holds Try.pinned (OpenSpec.upto iceDarksSpec)

/-- 'firnlaw04.IceLamps', WHERE WHAT IT READS IS OF BULK AT MOST 1048576: true; the input reads as it did. -/
def iceLampsUptoRow : OpenClaim := { program := "ytnodeooammplfaa", sum := "da862c2b325eb64e1a094d2a41229f2db82b6c3fb2818fba7adc5efb5012e24d", func := "firn/firnlaw04.IceLamps", spec := "iceLamps", unfollowed := true, recurses := true, apart := false, narrowed := true }
def IceLampsUptoSaid : Prop := iceLampsUptoRow.holds Try.pinned (OpenSpec.upto iceLampsSpec)

/-- 'firnlaw04.IceTurns', WHERE WHAT IT READS IS OF BULK AT MOST 1048576: true; the input reads as it did. -/
def iceTurnsUptoRow : OpenClaim := { program := "ytnodeooammplfaa", sum := "da862c2b325eb64e1a094d2a41229f2db82b6c3fb2818fba7adc5efb5012e24d", func := "firn/firnlaw04.IceTurns", spec := "iceTurns", unfollowed := true, recurses := true, apart := false, narrowed := true }
def IceTurnsUptoSaid : Prop := iceTurnsUptoRow.holds Try.pinned (OpenSpec.upto iceTurnsSpec)

/-- 'firnlaw04.IceProofs', WHERE WHAT IT READS IS OF BULK AT MOST 1048576: true; the input reads as it did. -/
def iceProofsUptoRow : OpenClaim := { program := "ytnodeooammplfaa", sum := "da862c2b325eb64e1a094d2a41229f2db82b6c3fb2818fba7adc5efb5012e24d", func := "firn/firnlaw04.IceProofs", spec := "iceProofs", unfollowed := true, recurses := true, apart := false, narrowed := true }
def IceProofsUptoSaid : Prop := iceProofsUptoRow.holds Try.pinned (OpenSpec.upto iceProofsSpec)

end Rows
end Go.Proofs.Ytnodeooammplfaa
