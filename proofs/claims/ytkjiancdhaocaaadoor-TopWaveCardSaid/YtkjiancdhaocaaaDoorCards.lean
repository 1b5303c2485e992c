/-
  DERIVED. GIVEN WITH THE SEED: THE CARDS: each row of YtkjiancdhaocaaaDoorRows.lean that lists a variable, with what it lists TIED to the program's text (the seventh form; the later family's looks); each row that meets fmt, with fmt's text TOLD by the authors' own Lean function (tested against real Go, not proved from fmt's source: count such statements apart). THE CARD IS WHAT COUNTS. Prove the row's statement (the work); the ties are given (YtkjiancdhaocaaaDoorTie.lean); close each card by the builder's one call (the guide's Derived/Test/ToyasCard.lean, 'card_holds'). Laid BY PROGRAM, IN A SANDBOX (cutbox-door.mjs). By AI agents, Wed Nov 11 2026. No macro, syntax, notation, axiom, sorry.
-/
import Derived.Test.YtkjiancdhaocaaaDoorRows
import GoSem.ClaimSeven
namespace Go.Proofs.YtkjiancdhaocaaaDoor
namespace Rows

/-- THE TIED CARD OF 'firntop.TopWave'. -/
def topWaveCard : Claim7 := { stood := { row := topWaveRow, standIns := [], harness := (true, "96a856b3ad66b875aa4ccf1a35d3ff538238b2af94a5de1ceb368c6df74543da"), looks := false }, kinds := [], alts := [], laidByText := true, laidKinds := [.data, .pinned], laidTests := true, laidLooks := .later }
def TopWaveCardSaid : Prop := Claim7.holds Tryd.pinned (.plain (OpenSpec.ofChange topWaveSpec)) topWaveCard

/-- THE SECOND FORM's CARD OF 'firntop.TopWave'. -/
def topWaveUptoCard : Claim7 := { stood := { row := topWaveUptoRow, standIns := [], harness := (true, "96a856b3ad66b875aa4ccf1a35d3ff538238b2af94a5de1ceb368c6df74543da"), looks := false }, kinds := [], alts := [], laidByText := true, laidKinds := [.data, .pinned], laidTests := true, laidLooks := .later }
def TopWaveUptoCardSaid : Prop := Claim7.holds Tryd.pinned (.plain (OpenSpec.upto topWaveSpec)) topWaveUptoCard
end Rows
end Go.Proofs.YtkjiancdhaocaaaDoor
