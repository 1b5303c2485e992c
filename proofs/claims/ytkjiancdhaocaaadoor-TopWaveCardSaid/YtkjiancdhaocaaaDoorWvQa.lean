/- What is read of a text: plain. -/
import Derived.Test.YtkjiancdhaocaaaDoorWvN
import Derived.Test.YtkjiancdhaocaaaDoorWvDa
namespace Go.Proofs.YtkjiancdhaocaaaDoor
open Go.RowKit
set_option linter.unusedSimpArgs false
set_option linter.unusedVariables false

abbrev Rd := List Int × List Int × Nat × Bool
/-- what is read from some width on: numbers, widths, changes, and whether a change stands last -/
def rdF (lo : Bool) (t : Tx) (k : Nat) : Option Rd :=
  if h0 : t.length = 0 then some ([], [], 0, lo)
  else if h1 : t.length < wid k then none
  else if canD (wid k) (numB (t.take (wid k))) = true then
    (rdF false (t.drop (wid k)) k).map fun r => (numB (t.take (wid k)) :: r.1, (wid k : Int) :: r.2.1, r.2.2.1, r.2.2.2)
  else if h2 : t.length = wid k then none
  else if (t.drop (wid k)).head? = some 49 then
    (if k + 1 < 5 then (rdF true (t.drop (wid k + 1)) (k + 1)).map fun r => (r.1, r.2.1, r.2.2.1 + 1, r.2.2.2) else none)
  else (if 0 < k then (rdF true (t.drop (wid k + 1)) (k - 1)).map fun r => (r.1, r.2.1, r.2.2.1 + 1, r.2.2.2) else none)
termination_by t.length
decreasing_by
  all_goals
    have := (okW_le (wid_ok k)).1
    simp only [List.length_drop]
    omega
def addR (ds ws : List Int) (ch : Nat) (r : Option Rd) : Option Rd := r.map fun r => (ds ++ r.1, ws ++ r.2.1, ch + r.2.2.1, r.2.2.2)
theorem addR_nil (r : Option Rd) : addR [] [] 0 r = r := by
  unfold addR
  cases r with
  | none => rfl
  | some r => simp
theorem rd_nil (lo : Bool) (k : Nat) (ds ws : List Int) (ch : Nat) : addR ds ws ch (rdF lo [] k) = some (ds, ws, ch, lo) := by
  rw [rdF]
  simp [addR]
theorem rd_short {lo : Bool} {t : Tx} {k : Nat} (h0 : t.length ≠ 0) (h : t.length < wid k) (ds ws : List Int) (ch : Nat) : addR ds ws ch (rdF lo t k) = none := by
  rw [rdF, dif_neg h0, dif_pos h]
  rfl
theorem rd_word {lo : Bool} {t : Tx} {k : Nat} (h0 : t.length ≠ 0) (h : ¬ t.length < wid k) (hc : canD (wid k) (numB (t.take (wid k))) = true) (ds ws : List Int) (ch : Nat) :
    addR ds ws ch (rdF lo t k) = addR (ds ++ [numB (t.take (wid k))]) (ws ++ [(wid k : Int)]) ch (rdF false (t.drop (wid k)) k) := by
  rw [rdF, dif_neg h0, dif_neg h, if_pos hc]
  unfold addR
  rw [Option.map_map]
  congr 1
  funext r
  simp
theorem rd_stop {lo : Bool} {t : Tx} {k : Nat} (h0 : t.length ≠ 0) (h : t.length = wid k) (hc : canD (wid k) (numB (t.take (wid k))) = false) (ds ws : List Int) (ch : Nat) : addR ds ws ch (rdF lo t k) = none := by
  rw [rdF, dif_neg h0, dif_neg (by omega), if_neg (by rw [hc]; decide), dif_pos h]
  rfl
theorem rd_up {lo : Bool} {t : Tx} {k : Nat} (h : wid k < t.length) (hc : canD (wid k) (numB (t.take (wid k))) = false) (h9 : (t.drop (wid k)).head? = some 49) (ds ws : List Int) (ch : Nat) :
    addR ds ws ch (rdF lo t k) = if k + 1 < 5 then addR ds ws (ch + 1) (rdF true (t.drop (wid k + 1)) (k + 1)) else none := by
  rw [rdF, dif_neg (by omega), dif_neg (by omega), if_neg (by rw [hc]; decide), dif_neg (by omega), if_pos h9]
  split
  · unfold addR
    rw [Option.map_map]
    congr 1
    funext r
    simp
    omega
  · rfl
theorem rd_down {lo : Bool} {t : Tx} {k : Nat} (h : wid k < t.length) (hc : canD (wid k) (numB (t.take (wid k))) = false) (h9 : (t.drop (wid k)).head? ≠ some 49) (ds ws : List Int) (ch : Nat) :
    addR ds ws ch (rdF lo t k) = if 0 < k then addR ds ws (ch + 1) (rdF true (t.drop (wid k + 1)) (k - 1)) else none := by
  rw [rdF, dif_neg (by omega), dif_neg (by omega), if_neg (by rw [hc]; decide), dif_neg (by omega), if_neg h9]
  split
  · unfold addR
    rw [Option.map_map]
    congr 1
    funext r
    simp
    omega
  · rfl
/-- what a text says, if it is one of a wave form -/
def deO (t : Tx) : Option (List Int × List Int × Nat) := match rdF false t 2 with
  | some (d, ws, c, lo) => if smpOk d = true ∧ lo = false then some (d, ws, c) else none
  | none => none
theorem deO_none {t : Tx} (h : rdF false t 2 = none) : deO t = none := by unfold deO; rw [h]
theorem deO_some {t : Tx} {d ws : List Int} {c : Nat} {lo : Bool} (h : rdF false t 2 = some (d, ws, c, lo)) : deO t = if smpOk d = true ∧ lo = false then some (d, ws, c) else none := by unfold deO; rw [h]
end Go.Proofs.YtkjiancdhaocaaaDoor
