/- Plain law: the plain ice has the same metres, no two alike layers side by side, and is plain already. -/
import Derived.Test.YtnodeooammplfaaIceLaw6
import Derived.Test.YtnodeooammplfaaIcePlain
namespace Go.Proofs.Ytnodeooammplfaa
set_option linter.unusedVariables false

theorem plStep_snoc (Q : List (Int × Int)) (y x : Int × Int) : plStep (Q ++ [y]) x = if y.2 = x.2 then Q ++ [(y.1 + x.1, y.2)] else Q ++ [y] ++ [x] := by
  have hl : (Q ++ [y]).length - 1 = Q.length := by simp
  obtain ⟨e1, e2⟩ := pab_append Q y
  unfold plStep
  rw [if_neg (by simp), hl, e1, e2]
  split
  · congr 1; simp
  · rfl
/-- each layer is one, no two neighbours are alike, the metres are these -/
def PlInv (P : List (Int × Int)) (m : List Int) : Prop := (∀ x ∈ P, 1 ≤ x.1 ∧ 0 ≤ x.2 ∧ x.2 ≤ 100) ∧ (∀ k, k + 1 < P.length → pb P k ≠ pb P (k + 1)) ∧ mets P = m
theorem pb_append_left {P R : List (Int × Int)} {k : Nat} (hk : k < P.length) : pb (P ++ R) k = pb P k := by
  unfold pb; simp [List.getD_eq_getElem?_getD, List.getElem?_append_left hk]
theorem PlInv.step {P : List (Int × Int)} {m : List Int} {x : Int × Int} (h : PlInv P m) (hx : 1 ≤ x.1 ∧ 0 ≤ x.2 ∧ x.2 ≤ 100) : PlInv (plStep P x) (m ++ List.replicate x.1.toNat x.2) := by
  obtain ⟨h1, h2, h3⟩ := h
  rcases List.eq_nil_or_concat P with rfl | ⟨Q, y, rfl⟩
  · rw [plStep_new (.inl rfl)]
    refine ⟨by simpa using hx, fun k hk => by simp at hk, ?_⟩
    rw [← h3]; simp [mets]
  · rw [List.concat_eq_append] at *
    have hy := h1 y (by simp)
    rw [plStep_snoc]
    split
    · next e =>
      refine ⟨fun z hz => ?_, fun k hk => ?_, ?_⟩
      · rcases List.mem_append.1 hz with hz | hz
        · exact h1 z (by simp [hz])
        · simp only [List.mem_singleton] at hz; subst hz; exact ⟨by simp only; omega, hy.2⟩
      · have := h2 k (by simpa using hk)
        simp only [List.length_append, List.length_cons, List.length_nil] at hk
        by_cases e2 : k + 1 < Q.length
        · rw [pb_append_left (by omega), pb_append_left e2] at this ⊢
          exact this
        · have e3 : k + 1 = Q.length := by omega
          rw [pb_append_left (by omega), e3, (pab_append Q _).2] at this ⊢
          exact this
      · rw [mets_append, ← h3, mets_append, List.append_assoc]
        congr 1
        show List.replicate (y.1 + x.1).toNat y.2 ++ [] = (List.replicate y.1.toNat y.2 ++ []) ++ List.replicate x.1.toNat x.2
        rw [List.append_nil, List.append_nil, ← e, List.replicate_append_replicate]
        congr 1; omega
    · next e =>
      refine ⟨fun z hz => ?_, fun k hk => ?_, ?_⟩
      · rcases List.mem_append.1 hz with hz | hz
        · exact h1 z hz
        · simp only [List.mem_singleton] at hz; subst hz; exact hx
      · simp only [List.length_append, List.length_cons, List.length_nil] at hk
        by_cases e2 : k + 1 < (Q ++ [y]).length
        · have := h2 k e2
          rw [pb_append_left (R := [x]) (by omega), pb_append_left (R := [x]) e2]
          exact this
        · simp only [List.length_append, List.length_cons, List.length_nil] at e2
          have e3 : k = Q.length := by omega
          subst e3
          rw [pb_append_left (R := [x]) (by simp), (pab_append Q y).2, show Q.length + 1 = (Q ++ [y]).length by simp, (pab_append (Q ++ [y]) x).2]
          exact e
      · rw [mets_append, h3]; simp [mets]
theorem plain_inv {L : List (Int × Int)} (hv : vld L = true) : PlInv (plain L) (mets L) := by
  obtain ⟨_, _, h3⟩ := vld_spec hv
  have key : ∀ i, i ≤ L.length → PlInv (plain (L.take i)) (mets (L.take i)) := by
    intro i
    induction i with
    | zero => intro _; exact ⟨by simp [plain], by simp [plain], by simp [plain]⟩
    | succ i ih =>
      intro hi
      have := h3 i (by omega)
      rw [plain_succ L i (by omega), mets_take_succ L i (by omega)]
      exact (ih (by omega)).step ⟨by omega, by omega, by omega⟩
  have := key L.length (Nat.le_refl _)
  rwa [List.take_length] at this
theorem plain_of {M : List (Int × Int)} (h : ∀ k, k + 1 < M.length → pb M k ≠ pb M (k + 1)) : plain M = M := by
  have key : ∀ i, i ≤ M.length → plain (M.take i) = M.take i := by
    intro i
    induction i with
    | zero => intro _; simp [plain]
    | succ i ih =>
      intro hi
      rw [plain_succ M i (by omega), ih (by omega)]
      have hx : (pa M i, pb M i) = M[i] := (get_pab M i (by omega)).symm
      rw [plStep_new, List.take_succ_eq_append_getElem (by omega), hx]
      cases i with
      | zero => left; simp
      | succ j =>
        right
        have := h j (by omega)
        have e : (M.take (j + 1)).length - 1 = j := by rw [List.length_take]; omega
        rw [e]
        have e2 : pb (M.take (j + 1)) j = pb M j := by unfold pb; rw [List.getD_eq_getElem?_getD, List.getD_eq_getElem?_getD, List.getElem?_take, if_pos (by omega)]
        rw [e2]; exact this
  have := key M.length (Nat.le_refl _)
  rwa [List.take_length] at this
theorem plain_plain {L : List (Int × Int)} (hv : vld L = true) : plain (plain L) = plain L := plain_of (plain_inv hv).2.1
theorem plain_vld {L : List (Int × Int)} (hv : vld L = true) (h30 : ∀ k, k < (plain L).length → pa (plain L) k ≤ 30) : vld (plain L) = true := by
  obtain ⟨h1, h2, h3⟩ := vld_spec hv
  obtain ⟨i1, _, _⟩ := plain_inv hv
  have hlen := plain_len L L.length (Nat.le_refl _)
  rw [List.take_length] at hlen
  have hne := plain_ne L (L.length - 1) (by omega)
  rw [show L.length - 1 + 1 = L.length by omega, List.take_length] at hne
  have hpos := List.length_pos_iff.2 hne
  unfold vld
  rw [btw_iff.2 ⟨by omega, by omega⟩, Bool.true_and, Bool.not_eq_true', anyF_no]
  intro k hk
  have hm := i1 _ (List.getElem_mem hk)
  rw [get_pab _ k hk] at hm
  rw [btw_iff.2 ⟨hm.1, h30 k hk⟩, btw_iff.2 ⟨hm.2.1, hm.2.2⟩]
  rfl
theorem plain_len_le (L : List (Int × Int)) : (plain L).length ≤ L.length := by
  have := plain_len L L.length (Nat.le_refl _)
  rwa [List.take_length] at this
end Go.Proofs.Ytnodeooammplfaa
