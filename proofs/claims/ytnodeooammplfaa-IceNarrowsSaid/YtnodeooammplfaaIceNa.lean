/- Plain law of one estimate, and Between over one. -/
import Derived.Test.YtnodeooammplfaaIceBl
import Derived.Test.YtnodeooammplfaaLibL2
import Derived.Test.YtnodeooammplfaaIceLossesW
namespace Go.Proofs.Ytnodeooammplfaa
open Go.RowKit
set_option linter.unusedSimpArgs false
set_option linter.unusedVariables false

theorem losOne {L : List (Int × Int)} {Es : List (List Int)} {a b : Int} {m : Nat} (hE : LosE L Es a b = 0) (hm : m < Es.length) :
    LosE L [lx Es m] a b = 0 ∧ LosL L [lx Es m] a b = [ix (LosL L Es a b) m] := by
  have h := LosE_zero hE
  have hv := h.1
  have h2 := h.2
  rw [cum_length] at h2
  have h3 := estB_iff.1 h2
  have hE2 : LosE L [lx Es m] a b = 0 := by
    unfold LosE
    refine gate_ok hv ?_
    rw [cum_length]
    refine estB_iff.2 ⟨h3.1, ⟨by simp, by simp⟩, fun k hk => ?_⟩
    have hk0 : k = 0 := by simpa using hk
    subst hk0
    rw [lx_one]
    exact h3.2.2 m hm
  refine ⟨hE2, ?_⟩
  unfold LosL
  rw [if_pos hE2, if_pos hE]
  simp [losV, ix, hm, lx_one]
theorem thk_own {L : List (Int × Int)} {l : List Int} (hx : ∀ k, k < L.length → ix l k = pb L k) : thk L l = L := by
  refine List.ext_getElem (by simp [thkT_len]) fun k h1 h2 => ?_
  have := hx k h2
  simp only [thkT, List.getElem_map, List.getElem_range]
  rw [this]
  simp [pa, pb, h2]
theorem losOwn {L : List (Int × Int)} {l : List Int} {a b : Int} (hv : vld L = true) (hl : l.length = L.length) (hx : ∀ k, k < L.length → ix l k = pb L k) (ha : 0 ≤ a ∧ a ≤ (mets L).length) (hb : 0 ≤ b ∧ b ≤ (mets L).length) :
    LosE L [l] a b = 0 ∧ LosL L [l] a b = [lossI (cum (mets L)) a.toNat b.toNat] := by
  have hw : wrongB L.length l = false := wrongB_no.2 ⟨hl, fun k hk => by rw [hx k hk]; exact ((vld_iff'.1 hv).2 k hk).2⟩
  have hE2 : LosE L [l] a b = 0 := by
    unfold LosE
    refine gate_ok hv ?_
    rw [cum_length]
    refine estB_iff.2 ⟨⟨ha, hb⟩, ⟨by simp, by simp⟩, fun k hk => ?_⟩
    have hk0 : k = 0 := by simpa using hk
    subst hk0
    rw [lx_one]
    exact hw
  refine ⟨hE2, ?_⟩
  unfold LosL
  rw [if_pos hE2]
  simp [losV, lx_one, thk_own hx]
theorem Between_one (A A2 : Option Addr) (c c2 : Nat) (L : List (Int × Int)) (l : List Int) (a b v : Int) (w : World) (hr : RdP w w.heap.size A L) (hl : L.length ≤ 1000000) (hr2 : RdL w w.heap.size A2 [l]) (hls : l.length ≤ 1000000) (hE : LosE L [l] a b = 0) (hV : LosL L [l] a b = [v]) :
    Calls Try.prog 45 #[.slice A L.length c, .slice A2 1 c2, .int .i64 a, .int .i64 b] w fun e w' => e = .returned (.tuple #[.int .i64 v, .int .i64 v, .int .i64 0]) ∧ Below w.heap.size w w' := by
  have h := losses_any A A2 c c2 L [l] a b w hr hl hr2 (by simp) (fun k hk => by
    have hk0 : k = 0 := by simpa using hk
    subst hk0
    exact hls)
  have h2 := Between_of _ _ _ _ _ _ w (fun _ => by rw [hV]; simp) (by rw [hV]; simp) h
  rw [hE, hV, show BetV 0 [v] = .tuple #[.int .i64 v, .int .i64 v, .int .i64 0] by simp [BetV, mnL, mxL, ix]] at h2
  exact h2
theorem mxL_le (l : List Int) (k : Nat) : ∀ j, j < k → ix l j ≤ mxL l k := by
  induction k with
  | zero => intro j h; omega
  | succ k ih =>
    intro j hj
    simp only [mxL]
    by_cases e : j = k
    · subst e; split <;> omega
    · have := ih j (by omega); split <;> omega
theorem mxL_at (l : List Int) (k : Nat) (h : 0 < k) : ∃ j, j < k ∧ ix l j = mxL l k := by
  induction k with
  | zero => omega
  | succ k ih =>
    simp only [mxL]
    split
    · exact ⟨k, by omega, rfl⟩
    · by_cases e : k = 0
      · subst e; exact ⟨0, by omega, rfl⟩
      · obtain ⟨j, hj, e⟩ := ih (by omega)
        exact ⟨j, by omega, e⟩
end Go.Proofs.Ytnodeooammplfaa
