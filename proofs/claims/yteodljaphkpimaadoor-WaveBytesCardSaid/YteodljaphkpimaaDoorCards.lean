/-
  DERIVED. GIVEN WITH THE SEED: THE CARDS: each row of YteodljaphkpimaaDoorRows.lean that lists a variable, with what it lists TIED to the program's text (the seventh form; the later family's looks); each row that meets fmt, with fmt's text TOLD by the authors' own Lean function (tested against real Go, not proved from fmt's source: count such statements apart). THE CARD IS WHAT COUNTS. Prove the row's statement (the work); the ties are given (YteodljaphkpimaaDoorTie.lean); close each card by the builder's one call (the guide's Derived/Test/ToyasCard.lean, 'card_holds'). Laid BY PROGRAM, IN A SANDBOX (cutbox-door.mjs). By AI agents, Wed Nov 11 2026. No macro, syntax, notation, axiom, sorry.
-/
import Derived.Test.YteodljaphkpimaaDoorRows
import GoSem.ClaimSeven
namespace Go.Proofs.YteodljaphkpimaaDoor
namespace Rows

/-- THE TIED CARD OF 'firnlaw03.WaveDifferences'. -/
def waveDifferencesCard : Claim7 := { stood := { row := waveDifferencesRow, standIns := [], harness := (true, "ac97e8c679507c709c89897379cf2722d15ee313b14e7c2a645f13f983ea40b6"), looks := false }, kinds := [], alts := [], laidByText := true, laidKinds := [.data, .pinned], laidTests := true, laidLooks := .later }
def WaveDifferencesCardSaid : Prop := Claim7.holds Tryd.pinned (.plain (OpenSpec.ofChange waveDifferencesSpec)) waveDifferencesCard

/-- THE TIED CARD OF 'firnlaw03.WaveWords'. -/
def waveWordsCard : Claim7 := { stood := { row := waveWordsRow, standIns := [], harness := (true, "ac97e8c679507c709c89897379cf2722d15ee313b14e7c2a645f13f983ea40b6"), looks := false }, kinds := [], alts := [], laidByText := true, laidKinds := [.data, .pinned], laidTests := true, laidLooks := .later }
def WaveWordsCardSaid : Prop := Claim7.holds Tryd.pinned (.plain (OpenSpec.ofChange waveWordsSpec)) waveWordsCard

/-- THE TIED CARD OF 'firnlaw03.WaveNumbers'. -/
def waveNumbersCard : Claim7 := { stood := { row := waveNumbersRow, standIns := [], harness := (true, "ac97e8c679507c709c89897379cf2722d15ee313b14e7c2a645f13f983ea40b6"), looks := false }, kinds := [], alts := [], laidByText := true, laidKinds := [.data, .pinned], laidTests := true, laidLooks := .later }
def WaveNumbersCardSaid : Prop := Claim7.holds Tryd.pinned (.plain (OpenSpec.ofChange waveNumbersSpec)) waveNumbersCard

/-- THE TIED CARD OF 'firnlaw03.WaveBytes'. -/
def waveBytesCard : Claim7 := { stood := { row := waveBytesRow, standIns := [], harness := (true, "ac97e8c679507c709c89897379cf2722d15ee313b14e7c2a645f13f983ea40b6"), looks := false }, kinds := [], alts := [], laidByText := true, laidKinds := [.data, .pinned], laidTests := true, laidLooks := .later }
def WaveBytesCardSaid : Prop := Claim7.holds Tryd.pinned (.plain (OpenSpec.ofChange waveBytesSpec)) waveBytesCard

/-- THE TIED CARD OF 'firnlaw03.WavePacks'. -/
def wavePacksCard : Claim7 := { stood := { row := wavePacksRow, standIns := [], harness := (true, "ac97e8c679507c709c89897379cf2722d15ee313b14e7c2a645f13f983ea40b6"), looks := false }, kinds := [], alts := [], laidByText := true, laidKinds := [.data, .pinned], laidTests := true, laidLooks := .later }
def WavePacksCardSaid : Prop := Claim7.holds Tryd.pinned (.plain (OpenSpec.ofChange wavePacksSpec)) wavePacksCard

/-- THE TIED CARD OF 'firnlaw03.WaveDecodes'. -/
def waveDecodesCard : Claim7 := { stood := { row := waveDecodesRow, standIns := [], harness := (true, "ac97e8c679507c709c89897379cf2722d15ee313b14e7c2a645f13f983ea40b6"), looks := false }, kinds := [], alts := [], laidByText := true, laidKinds := [.data, .pinned], laidTests := true, laidLooks := .later }
def WaveDecodesCardSaid : Prop := Claim7.holds Tryd.pinned (.plain (OpenSpec.ofChange waveDecodesSpec)) waveDecodesCard

/-- THE TIED CARD OF 'firnlaw03.WavePlanned'. -/
def wavePlannedCard : Claim7 := { stood := { row := wavePlannedRow, standIns := [], harness := (true, "ac97e8c679507c709c89897379cf2722d15ee313b14e7c2a645f13f983ea40b6"), looks := false }, kinds := [], alts := [], laidByText := true, laidKinds := [.data, .pinned], laidTests := true, laidLooks := .later }
def WavePlannedCardSaid : Prop := Claim7.holds Tryd.pinned (.plain (OpenSpec.ofChange wavePlannedSpec)) wavePlannedCard

/-- THE TIED CARD OF 'firnlaw03.WaveReads'. -/
def waveReadsCard : Claim7 := { stood := { row := waveReadsRow, standIns := [], harness := (true, "ac97e8c679507c709c89897379cf2722d15ee313b14e7c2a645f13f983ea40b6"), looks := false }, kinds := [], alts := [], laidByText := true, laidKinds := [.data, .pinned], laidTests := true, laidLooks := .later }
def WaveReadsCardSaid : Prop := Claim7.holds Tryd.pinned (.plain (OpenSpec.ofChange waveReadsSpec)) waveReadsCard

/-- THE TIED CARD OF 'firnlaw03.WaveBacks'. -/
def waveBacksCard : Claim7 := { stood := { row := waveBacksRow, standIns := [], harness := (true, "ac97e8c679507c709c89897379cf2722d15ee313b14e7c2a645f13f983ea40b6"), looks := false }, kinds := [], alts := [], laidByText := true, laidKinds := [.data, .pinned], laidTests := true, laidLooks := .later }
def WaveBacksCardSaid : Prop := Claim7.holds Tryd.pinned (.plain (OpenSpec.ofChange waveBacksSpec)) waveBacksCard

/-- THE TIED CARD OF 'firnlaw03.WaveFewest'. -/
def waveFewestCard : Claim7 := { stood := { row := waveFewestRow, standIns := [], harness := (true, "ac97e8c679507c709c89897379cf2722d15ee313b14e7c2a645f13f983ea40b6"), looks := false }, kinds := [], alts := [], laidByText := true, laidKinds := [.data, .pinned], laidTests := true, laidLooks := .later }
def WaveFewestCardSaid : Prop := Claim7.holds Tryd.pinned (.plain (OpenSpec.ofChange waveFewestSpec)) waveFewestCard

/-- THE SECOND FORM's CARD OF 'firnlaw03.WaveDifferences'. -/
def waveDifferencesUptoCard : Claim7 := { stood := { row := waveDifferencesUptoRow, standIns := [], harness := (true, "ac97e8c679507c709c89897379cf2722d15ee313b14e7c2a645f13f983ea40b6"), looks := false }, kinds := [], alts := [], laidByText := true, laidKinds := [.data, .pinned], laidTests := true, laidLooks := .later }
def WaveDifferencesUptoCardSaid : Prop := Claim7.holds Tryd.pinned (.plain (OpenSpec.upto waveDifferencesSpec)) waveDifferencesUptoCard

/-- THE SECOND FORM's CARD OF 'firnlaw03.WaveWords'. -/
def waveWordsUptoCard : Claim7 := { stood := { row := waveWordsUptoRow, standIns := [], harness := (true, "ac97e8c679507c709c89897379cf2722d15ee313b14e7c2a645f13f983ea40b6"), looks := false }, kinds := [], alts := [], laidByText := true, laidKinds := [.data, .pinned], laidTests := true, laidLooks := .later }
def WaveWordsUptoCardSaid : Prop := Claim7.holds Tryd.pinned (.plain (OpenSpec.upto waveWordsSpec)) waveWordsUptoCard

/-- THE SECOND FORM's CARD OF 'firnlaw03.WaveNumbers'. -/
def waveNumbersUptoCard : Claim7 := { stood := { row := waveNumbersUptoRow, standIns := [], harness := (true, "ac97e8c679507c709c89897379cf2722d15ee313b14e7c2a645f13f983ea40b6"), looks := false }, kinds := [], alts := [], laidByText := true, laidKinds := [.data, .pinned], laidTests := true, laidLooks := .later }
def WaveNumbersUptoCardSaid : Prop := Claim7.holds Tryd.pinned (.plain (OpenSpec.upto waveNumbersSpec)) waveNumbersUptoCard

/-- THE SECOND FORM's CARD OF 'firnlaw03.WaveBytes'. -/
def waveBytesUptoCard : Claim7 := { stood := { row := waveBytesUptoRow, standIns := [], harness := (true, "ac97e8c679507c709c89897379cf2722d15ee313b14e7c2a645f13f983ea40b6"), looks := false }, kinds := [], alts := [], laidByText := true, laidKinds := [.data, .pinned], laidTests := true, laidLooks := .later }
def WaveBytesUptoCardSaid : Prop := Claim7.holds Tryd.pinned (.plain (OpenSpec.upto waveBytesSpec)) waveBytesUptoCard

/-- THE SECOND FORM's CARD OF 'firnlaw03.WavePacks'. -/
def wavePacksUptoCard : Claim7 := { stood := { row := wavePacksUptoRow, standIns := [], harness := (true, "ac97e8c679507c709c89897379cf2722d15ee313b14e7c2a645f13f983ea40b6"), looks := false }, kinds := [], alts := [], laidByText := true, laidKinds := [.data, .pinned], laidTests := true, laidLooks := .later }
def WavePacksUptoCardSaid : Prop := Claim7.holds Tryd.pinned (.plain (OpenSpec.upto wavePacksSpec)) wavePacksUptoCard

/-- THE SECOND FORM's CARD OF 'firnlaw03.WaveDecodes'. -/
def waveDecodesUptoCard : Claim7 := { stood := { row := waveDecodesUptoRow, standIns := [], harness := (true, "ac97e8c679507c709c89897379cf2722d15ee313b14e7c2a645f13f983ea40b6"), looks := false }, kinds := [], alts := [], laidByText := true, laidKinds := [.data, .pinned], laidTests := true, laidLooks := .later }
def WaveDecodesUptoCardSaid : Prop := Claim7.holds Tryd.pinned (.plain (OpenSpec.upto waveDecodesSpec)) waveDecodesUptoCard

/-- THE SECOND FORM's CARD OF 'firnlaw03.WavePlanned'. -/
def wavePlannedUptoCard : Claim7 := { stood := { row := wavePlannedUptoRow, standIns := [], harness := (true, "ac97e8c679507c709c89897379cf2722d15ee313b14e7c2a645f13f983ea40b6"), looks := false }, kinds := [], alts := [], laidByText := true, laidKinds := [.data, .pinned], laidTests := true, laidLooks := .later }
def WavePlannedUptoCardSaid : Prop := Claim7.holds Tryd.pinned (.plain (OpenSpec.upto wavePlannedSpec)) wavePlannedUptoCard

/-- THE SECOND FORM's CARD OF 'firnlaw03.WaveReads'. -/
def waveReadsUptoCard : Claim7 := { stood := { row := waveReadsUptoRow, standIns := [], harness := (true, "ac97e8c679507c709c89897379cf2722d15ee313b14e7c2a645f13f983ea40b6"), looks := false }, kinds := [], alts := [], laidByText := true, laidKinds := [.data, .pinned], laidTests := true, laidLooks := .later }
def WaveReadsUptoCardSaid : Prop := Claim7.holds Tryd.pinned (.plain (OpenSpec.upto waveReadsSpec)) waveReadsUptoCard

/-- THE SECOND FORM's CARD OF 'firnlaw03.WaveBacks'. -/
def waveBacksUptoCard : Claim7 := { stood := { row := waveBacksUptoRow, standIns := [], harness := (true, "ac97e8c679507c709c89897379cf2722d15ee313b14e7c2a645f13f983ea40b6"), looks := false }, kinds := [], alts := [], laidByText := true, laidKinds := [.data, .pinned], laidTests := true, laidLooks := .later }
def WaveBacksUptoCardSaid : Prop := Claim7.holds Tryd.pinned (.plain (OpenSpec.upto waveBacksSpec)) waveBacksUptoCard

/-- THE SECOND FORM's CARD OF 'firnlaw03.WaveFewest'. -/
def waveFewestUptoCard : Claim7 := { stood := { row := waveFewestUptoRow, standIns := [], harness := (true, "ac97e8c679507c709c89897379cf2722d15ee313b14e7c2a645f13f983ea40b6"), looks := false }, kinds := [], alts := [], laidByText := true, laidKinds := [.data, .pinned], laidTests := true, laidLooks := .later }
def WaveFewestUptoCardSaid : Prop := Claim7.holds Tryd.pinned (.plain (OpenSpec.upto waveFewestSpec)) waveFewestUptoCard
end Rows
end Go.Proofs.YteodljaphkpimaaDoor
