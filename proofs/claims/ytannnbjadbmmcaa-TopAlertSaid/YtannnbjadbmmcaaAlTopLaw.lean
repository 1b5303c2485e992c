/- Plain: all tasks are kept exactly if no stretch is overfull (for TopAlert). -/
import Derived.Test.YtannnbjadbmmcaaAlLaw2
namespace Go.Proofs.Ytannnbjadbmmcaa
set_option linter.unusedVariables false

theorem take_succ_tx {L : List (Int × Int × Int)} {i : Nat} (h : i < L.length) : L.take (i + 1) = L.take i ++ [tx L i] := by
  rw [List.take_succ_eq_append_getElem h, tx_get h]
theorem kepT_take {L : List (Int × Int × Int)} (hok : okT L) (h0 : 0 ≤ slk L) (i : Nat) (hi : i ≤ L.length) : kepT L i = L.take i := by
  induction i with
  | zero => rfl
  | succ i ih =>
    have e := ih (by omega)
    rw [kepT_succ, e, ← take_succ_tx (by omega), if_pos]
    have := slk_sub (List.take_sublist (i + 1) L) (okT_iff.1 hok).2
    omega
theorem kep_all {L : List (Int × Int × Int)} (hok : okT L) : (kepI L L.length).length = L.length ↔ 0 ≤ slk L := by
  rw [← kepT_len]
  constructor
  · intro h
    have hs := kepT_sub L L.length (Nat.le_refl _)
    rw [List.take_length] at hs
    have e := hs.eq_of_length h
    have := kepT_slk L L.length
    rwa [e] at this
  · intro h
    rw [kepT_take hok h L.length (Nat.le_refl _), List.take_length]
end Go.Proofs.Ytannnbjadbmmcaa
