/- Plain ice and ice the other way up: plain law, and the walks over Plain, Turned and their references. -/
import Derived.Test.YtbocedbonaeohaaIceLossesW
namespace Go.Proofs.Ytbocedbonaeohaa
set_option linter.unusedVariables false
open Go.RowKit

theorem infoLayer : (Try.prog.info? 39).map (fun i => (i.zero, i.size, i.bytes)) = some (some (.agg #[.int .i64 0, .int .i64 0]), 2, 16) := by kernel_rfl

/-! ### one cell of a row of pairs is written -/
theorem cells2_set (l : List (Int × Int)) (k : Nat) (z : Int) : (cells2 l).set (k * 2) (.int .i64 z) = cells2 (l.set k (z, pb l k)) := by
  induction l generalizing k with
  | nil => simp [cells2]
  | cons x l ih =>
    rw [show cells2 (x :: l) = .int .i64 x.1 :: .int .i64 x.2 :: cells2 l from rfl]
    cases k with
    | zero => simp [cells2, pb]
    | succ k =>
      rw [show (k + 1) * 2 = k * 2 + 1 + 1 by omega, List.set_cons_succ, List.set_cons_succ, ih k, List.set_cons_succ, pb_cons]
      rfl
theorem cells2_set2 (l : List (Int × Int)) (k : Nat) (z : Int) : (cells2 l).set (k * 2 + 1) (.int .i64 z) = cells2 (l.set k (pa l k, z)) := by
  induction l generalizing k with
  | nil => simp [cells2]
  | cons x l ih =>
    rw [show cells2 (x :: l) = .int .i64 x.1 :: .int .i64 x.2 :: cells2 l from rfl]
    cases k with
    | zero => simp [cells2, pa]
    | succ k =>
      rw [show (k + 1) * 2 + 1 = (k * 2 + 1) + 1 + 1 by omega, List.set_cons_succ, List.set_cons_succ, ih k, List.set_cons_succ, pa_cons]
      rfl
theorem OwnP.setA {w : World} {B : Nat} {e : TypeId} {g c : Nat} {l : List (Int × Int)} (h : OwnP w B e (.slice (some ⟨g, 0, none⟩) l.length c) l) (k : Nat) (z : Int) :
    OwnP (w.setCell ⟨g, k * 2, none⟩ (.int .i64 z)) B e (.slice (some ⟨g, 0, none⟩) l.length c) (l.set k (z, pb l k)) := by
  have h' : w.ownsRow B e 2 _ l.length (cells2 l) := h
  have := (h'.stored (k * 2) (.int .i64 z)).1
  rw [cells2_set] at this
  show World.ownsRow _ _ _ _ _ _ _
  rwa [List.length_set]
theorem OwnP.setB {w : World} {B : Nat} {e : TypeId} {g c : Nat} {l : List (Int × Int)} (h : OwnP w B e (.slice (some ⟨g, 0, none⟩) l.length c) l) (k : Nat) (z : Int) :
    OwnP (w.setCell ⟨g, k * 2 + 1, none⟩ (.int .i64 z)) B e (.slice (some ⟨g, 0, none⟩) l.length c) (l.set k (pa l k, z)) := by
  have h' : w.ownsRow B e 2 _ l.length (cells2 l) := h
  have := (h'.stored (k * 2 + 1) (.int .i64 z)).1
  rw [cells2_set2] at this
  show World.ownsRow _ _ _ _ _ _ _
  rwa [List.length_set]

/-! ### plain ice -/
def plStep (out : List (Int × Int)) (x : Int × Int) : List (Int × Int) :=
  if out = [] then [x] else if pb out (out.length - 1) = x.2 then out.set (out.length - 1) (pa out (out.length - 1) + x.1, pb out (out.length - 1)) else out ++ [x]
def plain (L : List (Int × Int)) : List (Int × Int) := L.foldl plStep []
theorem plain_succ (L : List (Int × Int)) (i : Nat) (hi : i < L.length) : plain (L.take (i + 1)) = plStep (plain (L.take i)) (pa L i, pb L i) := by
  unfold plain
  rw [List.take_succ_eq_append_getElem hi, List.foldl_append, get_pab L i hi]
  rfl
theorem plStep_new {out : List (Int × Int)} {x : Int × Int} (h : out = [] ∨ pb out (out.length - 1) ≠ x.2) : plStep out x = out ++ [x] := by
  unfold plStep
  split
  · next h0 => rw [h0]; rfl
  · next h0 =>
    rcases h with h | h
    · exact absurd h h0
    · rw [if_neg h]
theorem plStep_more {out : List (Int × Int)} {x : Int × Int} (h0 : out ≠ []) (h : pb out (out.length - 1) = x.2) : plStep out x = out.set (out.length - 1) (pa out (out.length - 1) + x.1, pb out (out.length - 1)) := by
  unfold plStep; rw [if_neg h0, if_pos h]
theorem plStep_ne (out : List (Int × Int)) (x : Int × Int) : plStep out x ≠ [] := by
  unfold plStep
  split
  · simp
  · next h => split <;> simp [h]
theorem pab_append (l : List (Int × Int)) (x : Int × Int) : pa (l ++ [x]) l.length = x.1 ∧ pb (l ++ [x]) l.length = x.2 := by simp [pa, pb]
theorem pab_set (l : List (Int × Int)) (k : Nat) (x : Int × Int) (hk : k < l.length) : pa (l.set k x) k = x.1 ∧ pb (l.set k x) k = x.2 := by simp [pa, pb, hk]
theorem plStep_last (out : List (Int × Int)) (x : Int × Int) : pb (plStep out x) ((plStep out x).length - 1) = x.2 := by
  by_cases h0 : out = []
  · rw [plStep_new (.inl h0), h0]; rfl
  · by_cases h : pb out (out.length - 1) = x.2
    · have : 0 < out.length := List.length_pos_iff.2 h0
      rw [plStep_more h0 h, List.length_set, (pab_set out _ _ (by omega)).2, h]
    · rw [plStep_new (.inr h), List.length_append, List.length_cons, List.length_nil]
      exact (pab_append out x).2
theorem plStep_len (out : List (Int × Int)) (x : Int × Int) : (plStep out x).length ≤ out.length + 1 := by
  unfold plStep
  split
  · simp
  · split <;> simp
theorem plain_ne (L : List (Int × Int)) (i : Nat) (hi : i < L.length) : plain (L.take (i + 1)) ≠ [] := by
  rw [plain_succ L i hi]; exact plStep_ne _ _
theorem plain_last (L : List (Int × Int)) (i : Nat) (hi : i < L.length) : pb (plain (L.take (i + 1))) ((plain (L.take (i + 1))).length - 1) = pb L i := by
  rw [plain_succ L i hi]; exact plStep_last _ _
theorem plain_len (L : List (Int × Int)) (i : Nat) (hi : i ≤ L.length) : (plain (L.take i)).length ≤ i := by
  induction i with
  | zero => simp [plain]
  | succ i ih =>
    rw [plain_succ L i (by omega)]
    have := plStep_len (plain (L.take i)) (pa L i, pb L i)
    have := ih (by omega)
    omega
/-- the thickness of the last layer so far -/
theorem plain_thick {L : List (Int × Int)} (h : okL L) (i : Nat) (hi : i ≤ L.length) : 0 ≤ pa (plain (L.take i)) ((plain (L.take i)).length - 1) ∧ pa (plain (L.take i)) ((plain (L.take i)).length - 1) ≤ 30 * i := by
  induction i with
  | zero => simp [plain, pa]
  | succ i ih =>
    have h1 := ih (by omega)
    have h2 := h.2 i (by omega)
    rw [plain_succ L i (by omega)]
    by_cases h0 : plain (L.take i) = []
    · rw [plStep_new (.inl h0), h0]
      simp [pa]
      simp [pa] at h2
      omega
    · have hp : 0 < (plain (L.take i)).length := List.length_pos_iff.2 h0
      by_cases hb : pb (plain (L.take i)) ((plain (L.take i)).length - 1) = pb L i
      · rw [plStep_more (x := (pa L i, pb L i)) h0 hb, List.length_set, (pab_set _ _ _ (by omega)).1]
        simp only
        omega
      · rw [plStep_new (x := (pa L i, pb L i)) (.inr hb), List.length_append, List.length_cons, List.length_nil]
        rw [show (plain (L.take i)).length + (0 + 1) - 1 = (plain (L.take i)).length by omega, (pab_append _ _).1]
        simp only
        omega

def PL (L : List (Int × Int)) : List (Int × Int) := if vld L then plain L else []
def TL (L : List (Int × Int)) : List (Int × Int) := if vld L then L.reverse else []
def IceRet (l : List (Int × Int)) (er : Int) (w : World) (e : Ending) (w' : World) : Prop :=
  Below w.heap.size w w' ∧ ∃ A c, e = .returned (.tuple #[.slice A l.length c, .int .i64 er]) ∧ RdP w' w'.heap.size A l
theorem iceRet_no {L l : List (Int × Int)} {w w' : World} (hv : vld L = false) (hl : l = []) (hb : Below w.heap.size w w') : IceRet l (gate (vld L) true) w (.returned (.tuple #[.slice none 0 0, .int .i64 40])) w' := by
  subst hl
  rw [gate_bad hv]
  exact ⟨hb, none, 0, rfl, .inl rfl⟩
theorem iceRet_ok {L l : List (Int × Int)} {w w' : World} {B : Nat} {e : TypeId} {v : Value} (hv : vld L = true) (h : OwnP w' B e v l) (hb : Below w.heap.size w w') : IceRet l (gate (vld L) true) w (.returned (.tuple #[v, .int .i64 0])) w' := by
  obtain ⟨A, c, rfl, hr⟩ := h.rd
  rw [gate_ok hv rfl]
  exact ⟨hb, A, c, rfl, hr⟩
end Go.Proofs.Ytbocedbonaeohaa
