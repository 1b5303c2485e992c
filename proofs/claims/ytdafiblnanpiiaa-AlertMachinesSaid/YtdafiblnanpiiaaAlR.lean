/- The walk of the law AlertEither. -/
import Derived.Test.YtdafiblnanpiiaaAlQ
import Derived.Test.YtdafiblnanpiiaaAlertStretchesW
namespace Go.Proofs.Ytdafiblnanpiiaa
open Go.RowKit
set_option linter.unusedSimpArgs false
set_option linter.unusedVariables false

theorem undI_nil {L : List (Int × Int × Int)} {p : List Int} (n : Nat) : undI L p n = [] ↔ ∀ i, i < n → tc L i ≤ cntI p i := by
  induction n with
  | zero => simp [undI]
  | succ n ih =>
    simp only [undI]
    split
    · rename_i h
      constructor
      · intro e; simp at e
      · intro h2; have := h2 n (by omega); omega
    · rename_i h
      rw [ih]
      constructor
      · intro h2 i hi
        rcases Nat.lt_succ_iff_lt_or_eq.1 hi with h3 | rfl
        · exact h2 i h3
        · omega
      · exact fun h2 i hi => h2 i (by omega)
theorem und_len {L : List (Int × Int × Int)} (hok : okT L) : (und L).length = 0 ↔ 0 ≤ slk L := by
  rw [List.length_eq_zero_iff]
  unfold und
  rw [undI_nil]
  have h := does_iff_slk L hok
  rw [Bool.eq_iff_iff, decide_eq_true_eq, doesB_iff] at h
  rw [← h]
  have hr := (urg_right L hok).2
  constructor
  · intro h2 i hi; have := h2 i hi; have := hr i hi; omega
  · intro h2 i hi; have := h2 i hi; omega
theorem AskE_valid {L : List (Int × Int × Int)} {p : List Int} (hv : vldT L = true) : AskE L p = 0 ∧ plnB L.length p = true ∨ AskE L p = 81 := by
  unfold AskE
  rw [hv]
  cases h : plnB L.length p
  · exact .inr rfl
  · exact .inl ⟨rfl, rfl⟩
theorem allB_slk {L : List (Int × Int × Int)} {p : List Int} (hp : plnB L.length p = true) (h : allB L p = true) : 0 ≤ slk L := by
  unfold allB at h
  rw [Bool.and_eq_true] at h
  exact slk_pos_of_all L p (plnB_iff.1 hp).1 ((rightB_iff hp).1 h.1) (doesB_iff.1 h.2)
theorem DoesV_valid {L : List (Int × Int × Int)} (p : List Int) (hv : vldT L = true) : DoesV L p = .tuple #[.bool false, .int .i64 0] ∨ (DoesV L p = .tuple #[.bool true, .int .i64 0] ∧ 0 ≤ slk L) ∨ DoesV L p = .tuple #[.bool false, .int .i64 81] := by
  unfold DoesV
  rcases AskE_valid (p := p) hv with ⟨h, hp⟩ | h
  · rw [h]
    cases ha : allB L p
    · exact .inl rfl
    · exact .inr (.inl ⟨rfl, allB_slk hp ha⟩)
  · rw [h]; exact .inr (.inr rfl)
theorem DoesV_urg {L : List (Int × Int × Int)} (hok : okT L) : DoesV L (urg L) = .tuple #[.bool (decide (0 ≤ slk L)), .int .i64 0] := by
  have h : AskE L (urg L) = 0 := by unfold AskE; rw [vldT_of hok, urg_pln]; rfl
  unfold DoesV
  rw [h, all_urg hok]; rfl
theorem OverV_valid {L : List (Int × Int × Int)} (hv : vldT L = true) : (0 ≤ slk L ∧ OverV L = .tuple #[.int .i64 0, .int .i64 0, .int .i64 5]) ∨ (slk L < 0 ∧ ∃ x y : Int, OverV L = .tuple #[.int .i64 x, .int .i64 y, .int .i64 0] ∧ 0 ≤ x ∧ x < y ∧ y ≤ 100 ∧ y - x < dem L x y) := by
  unfold OverV
  rw [hv]
  cases h : ovf L with
  | none => exact .inl ⟨(ovf_none_iff L).1 h, rfl⟩
  | some x =>
    obtain ⟨h1, h2, h3, h4, h5⟩ := ovf_some h
    exact .inr ⟨h5, x.1, x.2, rfl, h1, h2, h3, h4⟩
theorem IsoV_full {L : List (Int × Int × Int)} {x y : Int} (hv : vldT L = true) (h1 : 0 ≤ x) (h2 : x < y) (h3 : y ≤ 100) (h4 : y - x < dem L x y) : IsoV L x y 1 = .tuple #[.bool true, .int .i64 0] := by
  have e : IsoE L x y 1 = 0 := by unfold IsoE; rw [hv, strB_iff.2 ⟨h1, h2, h3⟩]; rfl
  unfold IsoV
  rw [e, decide_eq_true (show 1 * (y - x) < dem L x y by omega)]; rfl
/-- what is said of any stretch -/
theorem Stretch_valid {L : List (Int × Int × Int)} (a b : Int) (hv : vldT L = true) :
    (IsoV L a b 1 = .tuple #[.bool false, .int .i64 2] ∧ DemandE L a b = 2) ∨
    (DemandE L a b = 0 ∧ 0 ≤ a ∧ a < b ∧ b ≤ 100 ∧ slk L ≤ b - a - dem L a b ∧ (IsoV L a b 1 = .tuple #[.bool false, .int .i64 0] ∨ (IsoV L a b 1 = .tuple #[.bool true, .int .i64 0] ∧ slk L < 0))) := by
  have h1 : btw 1 1 4 = true := rfl
  cases hs : strB a b
  · exact .inl ⟨by unfold IsoV IsoE; rw [hv, hs]; rfl, by unfold DemandE; rw [hv, hs]; rfl⟩
  · have h := strB_iff.1 hs
    have hsl := slk_le L h.1 h.2.1 h.2.2
    have e : IsoE L a b 1 = 0 := by unfold IsoE; rw [hv, hs, h1]; rfl
    refine .inr ⟨by unfold DemandE; rw [hv, hs]; rfl, h.1, h.2.1, h.2.2, hsl, ?_⟩
    unfold IsoV
    rw [e]
    by_cases hd : 1 * (b - a) < dem L a b
    · rw [decide_eq_true hd]; exact .inr ⟨rfl, by omega⟩
    · rw [decide_eq_false hd]; exact .inl rfl
end Go.Proofs.Ytdafiblnanpiiaa
