/- Plain law of estimates: the layers with an estimate's numbers, and what 'losses' returns. -/
import Derived.Test.YtnodeooammplfaaIceBx
namespace Go.Proofs.Ytnodeooammplfaa
set_option linter.unusedVariables false
open Go.RowKit

/-- the first j layers, with an estimate's numbers -/
def thkT (L : List (Int × Int)) (l : List Int) (j : Nat) : List (Int × Int) := (List.range j).map fun k => (pa L k, ix l k)
abbrev thk (L : List (Int × Int)) (l : List Int) : List (Int × Int) := thkT L l L.length
theorem thkT_len (L : List (Int × Int)) (l : List Int) (j : Nat) : (thkT L l j).length = j := by simp [thkT]
theorem thkT_pa {L : List (Int × Int)} {l : List Int} {j k : Nat} (h : k < j) : pa (thkT L l j) k = pa L k := by simp [thkT, pa, h]
theorem thkT_pb {L : List (Int × Int)} {l : List Int} {j k : Nat} (h : k < j) : pb (thkT L l j) k = ix l k := by simp [thkT, pb, h]
theorem thkT_succ (L : List (Int × Int)) (l : List Int) (j : Nat) : thkT L l (j + 1) = thkT L l j ++ [(pa L j, ix l j)] := by simp [thkT, List.range_succ]
theorem wrongB_no {n : Nat} {l : List Int} : wrongB n l = false ↔ l.length = n ∧ ∀ k, k < n → 0 ≤ ix l k ∧ ix l k ≤ 100 := by
  unfold wrongB
  rw [Bool.or_eq_false_iff, decide_eq_false_iff_not, anyF_no, Decidable.not_not]
  constructor
  · rintro ⟨h1, h2⟩
    refine ⟨h1, fun k hk => ?_⟩
    have := h2 k (by omega)
    simp only [Bool.not_eq_false'] at this
    exact btw_iff.1 this
  · rintro ⟨h1, h2⟩
    refine ⟨h1, fun k hk => ?_⟩
    simp only [Bool.not_eq_false']
    exact btw_iff.2 (h2 k (by omega))
theorem vld_iff' {L : List (Int × Int)} : vld L = true ↔ (1 ≤ L.length ∧ L.length ≤ 20) ∧ ∀ k, k < L.length → (1 ≤ pa L k ∧ pa L k ≤ 30) ∧ 0 ≤ pb L k ∧ pb L k ≤ 100 := by
  constructor
  · intro h
    have := vld_spec h
    exact ⟨⟨this.1, this.2.1⟩, fun k hk => by have := this.2.2 k hk; omega⟩
  · rintro ⟨h1, h2⟩
    unfold vld
    rw [Bool.and_eq_true, Bool.not_eq_true', anyF_no]
    refine ⟨btw_iff.2 (by omega), fun k hk => ?_⟩
    have := h2 k hk
    rw [Bool.or_eq_false_iff, Bool.not_eq_false', Bool.not_eq_false']
    exact ⟨btw_iff.2 this.1, btw_iff.2 this.2⟩
/-- with an estimate as long as the ice, the layers are valid exactly if the estimate is not wrong -/
theorem vld_thk {L : List (Int × Int)} {l : List Int} (hv : vld L = true) (hl : l.length = L.length) : vld (thk L l) = !wrongB L.length l := by
  have h := vld_iff'.1 hv
  rw [Bool.eq_iff_iff, Bool.not_eq_true', wrongB_no, vld_iff', thkT_len]
  constructor
  · rintro ⟨_, h2⟩
    refine ⟨hl, fun k hk => ?_⟩
    have := (h2 k hk).2
    rwa [thkT_pb hk] at this
  · rintro ⟨_, h2⟩
    refine ⟨h.1, fun k hk => ?_⟩
    rw [thkT_pa hk, thkT_pb hk]
    exact ⟨(h.2 k hk).1, h2 k hk⟩
theorem okL_thk {L : List (Int × Int)} {l : List Int} (hv : vld L = true) (h : wrongB L.length l = false) : okL (thk L l) :=
  okL_of_vld (by rw [vld_thk hv (wrongB_no.1 h).1, h]; rfl)
theorem mets_len_fst : ∀ (A B : List (Int × Int)), A.map Prod.fst = B.map Prod.fst → (mets A).length = (mets B).length
  | [], [], _ => rfl
  | [], _ :: _, h => by simp at h
  | _ :: _, [], h => by simp at h
  | (a, x) :: A, (b, y) :: B, h => by
    simp only [List.map_cons, List.cons.injEq] at h
    have := mets_len_fst A B h.2
    simp only [mets, List.flatMap_cons, List.length_append, List.length_replicate] at this ⊢
    have h1 := h.1
    rw [h1, this]
theorem mets_thk_len (L : List (Int × Int)) (l : List Int) : (mets (thk L l)).length = (mets L).length := by
  refine mets_len_fst _ _ ?_
  refine List.ext_getElem (by simp [thkT_len]) fun k h1 h2 => ?_
  have h3 : k < L.length := by simpa using h2
  simp [thkT, pa, h3]

/-- the losses over the first j estimates -/
def losV (L : List (Int × Int)) (Es : List (List Int)) (x y : Int) (j : Nat) : List Int := (List.range j).map fun k => lossI (cum (mets (thk L (lx Es k)))) x.toNat y.toNat
theorem losV_len (L : List (Int × Int)) (Es : List (List Int)) (x y : Int) (j : Nat) : (losV L Es x y j).length = j := by simp [losV]
theorem losV_succ (L : List (Int × Int)) (Es : List (List Int)) (x y : Int) (j : Nat) : losV L Es x y (j + 1) = losV L Es x y j ++ [lossI (cum (mets (thk L (lx Es j)))) x.toNat y.toNat] := by simp [losV, List.range_succ]
def LosE (L : List (Int × Int)) (Es : List (List Int)) (x y : Int) : Int := gate (vld L) (estB (cum (mets L)).length L.length x y Es)
def LosL (L : List (Int × Int)) (Es : List (List Int)) (x y : Int) : List Int := if LosE L Es x y = 0 then losV L Es x y Es.length else []
theorem LosE_zero {L : List (Int × Int)} {Es : List (List Int)} {x y : Int} (h : LosE L Es x y = 0) : vld L = true ∧ estB (cum (mets L)).length L.length x y Es = true := by
  unfold LosE at h
  cases hv : vld L
  · rw [gate_bad hv] at h; cases h
  · cases he : estB (cum (mets L)).length L.length x y Es
    · rw [gate_arg hv he] at h; cases h
    · exact ⟨rfl, rfl⟩
theorem estB_iff {n m : Nat} {x y : Int} {Es : List (List Int)} : estB (n + 1) m x y Es = true ↔ ((0 ≤ x ∧ x ≤ n) ∧ 0 ≤ y ∧ y ≤ n) ∧ (1 ≤ Es.length ∧ Es.length ≤ 10) ∧ ∀ k, k < Es.length → wrongB m (lx Es k) = false := by
  unfold estB
  rw [Bool.and_eq_true, Bool.and_eq_true, isB_two_eq, Bool.and_eq_true, btw_iff, btw_iff, btw_iff, Bool.not_eq_true', anyF_no]
  constructor
  · rintro ⟨⟨h1, h2⟩, h3⟩; exact ⟨h1, by omega, h3⟩
  · rintro ⟨h1, h2, h3⟩; exact ⟨⟨h1, by omega⟩, h3⟩
theorem LosE_ok {L : List (Int × Int)} {Es : List (List Int)} {x y : Int} (h : LosE L Es x y = 0) : 1 ≤ Es.length ∧ Es.length ≤ 10 := by
  have := (LosE_zero h).2
  rw [cum_length] at this
  exact (estB_iff.1 this).2.1
theorem LosL_len {L : List (Int × Int)} {Es : List (List Int)} {x y : Int} : (LosE L Es x y = 0 → 1 ≤ (LosL L Es x y).length) ∧ (LosL L Es x y).length ≤ 10 ∧ (LosE L Es x y ≠ 0 → LosL L Es x y = []) := by
  unfold LosL
  by_cases h : LosE L Es x y = 0
  · rw [if_pos h, losV_len]
    have := LosE_ok h
    exact ⟨fun _ => this.1, this.2, fun h' => absurd h h'⟩
  · rw [if_neg h]
    exact ⟨fun h' => absurd h' h, by simp, fun _ => rfl⟩
end Go.Proofs.Ytnodeooammplfaa
