/- Plain law of several machines: the reference's search, breadth first. -/
import Derived.Test.YtdafiblnanpiiaaAlLawS
namespace Go.Proofs.Ytdafiblnanpiiaa
set_option linter.unusedVariables false

/-- what the search has found: Q the tasks in their order, bm for each minute the task that could have it, fr for each task the minute that it could give up -/
structure Bf (L : List (Int × Int × Int)) (H : Nat → Nat → Bool) (task : Nat) (Q : List Nat) (bm fr : Nat → Int) : Prop where
  head : ∃ r, Q = task :: r
  nd : Q.Nodup
  lt : ∀ j ∈ Q, j < L.length
  byS : ∀ m, m < 100 → bm m ≠ 0 → ∃ i ∈ Q, bm m = (i : Int) + 1 ∧ H i m = false ∧ ta L i ≤ m ∧ (m : Int) < tb L i
  frS : ∀ j ∈ Q, j ≠ task → ∃ m i : Nat, m < 100 ∧ fr j = (m : Int) + 1 ∧ bm m = (i : Int) + 1 ∧ i ∈ Q ∧ H j m = true ∧ Q.idxOf i < Q.idxOf j
theorem Bf.start {L : List (Int × Int × Int)} {H : Nat → Nat → Bool} {task : Nat} (h : task < L.length) (fr : Nat → Int) : Bf L H task [task] (fun _ => 0) fr :=
  ⟨⟨[], rfl⟩, by simp, by simp; exact h, fun m _ h => absurd rfl h, fun j hj hne => absurd (by simpa using hj) hne⟩
theorem Bf.taskMem {L : List (Int × Int × Int)} {H : Nat → Nat → Bool} {task : Nat} {Q : List Nat} {bm fr : Nat → Int} (h : Bf L H task Q bm fr) : task ∈ Q := by
  obtain ⟨r, rfl⟩ := h.head; simp
def updF (f : Nat → Int) (m : Nat) (x : Int) : Nat → Int := fun q => if q = m then x else f q
theorem updF_same (f : Nat → Int) (m : Nat) (x : Int) : updF f m x m = x := by simp [updF]
theorem updF_other {f : Nat → Int} {m q : Nat} {x : Int} (h : q ≠ m) : updF f m x q = f q := if_neg h
/-- a minute is found for a task of the queue -/
theorem Bf.minute {L : List (Int × Int × Int)} {H : Nat → Nat → Bool} {task : Nat} {Q : List Nat} {bm fr : Nat → Int} (h : Bf L H task Q bm fr) {i m : Nat} (hi : i ∈ Q) (hm : m < 100) (h0 : bm m = 0) (hH : H i m = false) (h1 : ta L i ≤ m) (h2 : (m : Int) < tb L i) : Bf L H task Q (updF bm m ((i : Int) + 1)) fr := by
  refine ⟨h.head, h.nd, h.lt, fun q hq hb => ?_, fun j hj hne => ?_⟩
  · by_cases e : q = m
    · subst e; rw [updF_same]; exact ⟨i, hi, rfl, hH, h1, h2⟩
    · rw [updF_other e] at hb ⊢; exact h.byS q hq hb
  · obtain ⟨q, i', h3, h4, h5, h6⟩ := h.frS j hj hne
    refine ⟨q, i', h3, h4, ?_, h6⟩
    rw [updF_other (by rintro rfl; omega)]; exact h5
/-- a task is found that could give up a minute -/
theorem Bf.task_ {L : List (Int × Int × Int)} {H : Nat → Nat → Bool} {task : Nat} {Q : List Nat} {bm fr : Nat → Int} (h : Bf L H task Q bm fr) {i j m : Nat} (hi : i ∈ Q) (hm : m < 100) (hb : bm m = (i : Int) + 1) (hj : j < L.length) (hH : H j m = true) (hn : j ∉ Q) : Bf L H task (Q ++ [j]) bm (updF fr j ((m : Int) + 1)) := by
  have hidx : ∀ a ∈ Q, (Q ++ [j]).idxOf a = Q.idxOf a := fun a ha => by rw [List.idxOf_append, if_pos ha]
  refine ⟨?_, ?_, ?_, ?_, ?_⟩
  · obtain ⟨r, rfl⟩ := h.head; exact ⟨r ++ [j], rfl⟩
  · rw [List.nodup_append]; exact ⟨h.nd, by simp, fun a ha b hb2 => by rw [List.mem_singleton] at hb2; rintro rfl; exact hn (hb2 ▸ ha)⟩
  · intro a ha
    rcases List.mem_append.1 ha with ha | ha
    · exact h.lt a ha
    · rw [List.mem_singleton] at ha; rw [ha]; exact hj
  · intro q hq hb2
    obtain ⟨i', h1, h2⟩ := h.byS q hq hb2
    exact ⟨i', List.mem_append_left _ h1, h2⟩
  · intro a ha hne
    by_cases e : a = j
    · subst e
      refine ⟨m, i, hm, updF_same _ _ _, hb, List.mem_append_left _ hi, hH, ?_⟩
      rw [hidx i hi, List.idxOf_append, if_neg hn]
      have := List.idxOf_lt_length_of_mem hi
      simp <;> omega
    · have ha2 : a ∈ Q := by
        rcases List.mem_append.1 ha with ha | ha
        · exact ha
        · rw [List.mem_singleton] at ha; exact absurd ha e
      obtain ⟨q, i', h1, h2, h3, h4, h5, h6⟩ := h.frS a ha2 hne
      exact ⟨q, i', h1, by rw [updF_other e]; exact h2, h3, List.mem_append_left _ h4, h5, by rw [hidx i' h4, hidx a ha2]; exact h6⟩

/-! ### giving minutes on -/
structure Aug (L : List (Int × Int × Int)) (H : Nat → Nat → Bool) (Q : List Nat) (bm : Nat → Int) (m0 i m : Nat) (Hc : Nat → Nat → Bool) : Prop where
  hi : i ∈ Q
  hm : m < 100
  hb : bm m = (i : Int) + 1
  row : ∀ j, rowS Hc j = rowS H j
  col : ∀ q, colS L.length Hc q = colS L.length H q + (if q = m0 then 1 else 0) - (if q = m then 1 else 0)
  low : ∀ j, (j ∈ Q → Q.idxOf j ≤ Q.idxOf i) → ∀ q, Hc j q = H j q
  win : ∀ j q, Hc j q = true → j < L.length ∧ q < 100 ∧ ta L j ≤ q ∧ (q : Int) < tb L j
theorem Aug.start {L : List (Int × Int × Int)} {K : Int} {H : Nat → Nat → Bool} {Q : List Nat} {bm : Nat → Int} {i m : Nat} (hA : Asg L K H) (hi : i ∈ Q) (hm : m < 100) (hb : bm m = (i : Int) + 1) : Aug L H Q bm m i m H :=
  ⟨hi, hm, hb, fun _ => rfl, fun q => by split <;> omega, fun _ _ _ => rfl, hA.win⟩
theorem Aug.free {L : List (Int × Int × Int)} {H : Nat → Nat → Bool} {task : Nat} {Q : List Nat} {bm fr : Nat → Int} {m0 i m : Nat} {Hc : Nat → Nat → Bool} (hB : Bf L H task Q bm fr) (h : Aug L H Q bm m0 i m Hc) : Hc i m = false ∧ i < L.length ∧ ta L i ≤ m ∧ (m : Int) < tb L i := by
  obtain ⟨i', h1, h2, h3, h4⟩ := hB.byS m h.hm (by rw [h.hb]; omega)
  have : i' = i := by have := h.hb; omega
  subst this
  exact ⟨by rw [h.low i' (fun _ => Nat.le_refl _)]; exact h3, hB.lt i' h1, h4⟩
theorem Aug.step {L : List (Int × Int × Int)} {H : Nat → Nat → Bool} {task : Nat} {Q : List Nat} {bm fr : Nat → Int} {m0 i m : Nat} {Hc : Nat → Nat → Bool} (hB : Bf L H task Q bm fr) (h : Aug L H Q bm m0 i m Hc) (hne : i ≠ task) :
    ∃ m' i' : Nat, m' < 100 ∧ fr i = (m' : Int) + 1 ∧ bm m' = (i' : Int) + 1 ∧ m' ≠ m ∧ i' < L.length ∧ Q.idxOf i' < Q.idxOf i ∧ Aug L H Q bm m0 i' m' (updH (updH Hc i m true) i m' false) := by
  obtain ⟨hf, hin, w1, w2⟩ := h.free hB
  obtain ⟨m', i', h1, h2, h3, h4, h5, h6⟩ := hB.frS i h.hi hne
  have hc' : Hc i m' = true := by rw [h.low i (fun _ => Nat.le_refl _)]; exact h5
  have hmm : m' ≠ m := by rintro rfl; rw [hf] at hc'; cases hc'
  have e1 : updH Hc i m true i m' = true := by rw [updH_other (by simp [hmm])]; exact hc'
  refine ⟨m', i', h1, h2, h3, hmm, hB.lt i' h4, h6, ⟨h4, h1, h3, fun j => ?_, fun q => ?_, fun j hj q => ?_, fun j q hq => ?_⟩⟩
  · rw [rowS_upd _ _ _ _ h1, rowS_upd _ _ _ _ h.hm, h.row, e1, hf]
    by_cases e : j = i
    · rw [if_pos e, if_pos e]; simp <;> omega
    · rw [if_neg e, if_neg e]; omega
  · rw [colS_upd _ _ _ _ _ hin, colS_upd _ _ _ _ _ hin, h.col, e1, hf]
    by_cases ea : q = m
    · rw [if_pos ea, if_pos ea, if_neg (show ¬ q = m' by omega), if_neg (show ¬ q = m' by omega)]; simp <;> omega
    · rw [if_neg ea, if_neg ea]
      by_cases eb : q = m'
      · rw [if_pos eb, if_pos eb]; simp <;> omega
      · rw [if_neg eb, if_neg eb]; omega
  · have hji : j ≠ i := by
      rintro rfl
      have := hj h.hi
      omega
    rw [updH_other (by simp [hji]), updH_other (by simp [hji])]
    exact h.low j (fun hjQ => Nat.le_trans (hj hjQ) (Nat.le_of_lt h6)) q
  · by_cases ea : j = i ∧ q = m'
    · rw [ea.1, ea.2, updH_same] at hq; cases hq
    · rw [updH_other ea] at hq
      by_cases eb : j = i ∧ q = m
      · rw [eb.1, eb.2]; exact ⟨hin, h.hm, w1, w2⟩
      · rw [updH_other eb] at hq; exact h.win j q hq
theorem Aug.done {L : List (Int × Int × Int)} {K : Int} {H : Nat → Nat → Bool} {task : Nat} {Q : List Nat} {bm fr : Nat → Int} {m0 m : Nat} {Hc : Nat → Nat → Bool} (hA : Asg L K H) (hB : Bf L H task Q bm fr) (h : Aug L H Q bm m0 task m Hc) (hc : colS L.length H m0 < K) :
    Asg L K (updH Hc task m true) ∧ (∀ j, rowS (updH Hc task m true) j = rowS H j + (if j = task then 1 else 0)) ∧ ∀ q, colS L.length (updH Hc task m true) q = colS L.length H q + (if q = m0 then 1 else 0) := by
  obtain ⟨hf, hin, w1, w2⟩ := h.free hB
  have hcol : ∀ q, colS L.length (updH Hc task m true) q = colS L.length H q + (if q = m0 then 1 else 0) := fun q => by
    rw [colS_upd _ _ _ _ _ hin, h.col, hf]
    by_cases ea : q = m
    · rw [if_pos ea, if_pos ea]; simp
    · rw [if_neg ea, if_neg ea]; omega
  refine ⟨⟨fun j q hq => ?_, fun q hq => ?_⟩, fun j => ?_, hcol⟩
  · by_cases eb : j = task ∧ q = m
    · rw [eb.1, eb.2]; exact ⟨hin, h.hm, w1, w2⟩
    · rw [updH_other eb] at hq; exact h.win j q hq
  · rw [hcol]
    have := hA.col q hq
    split
    · rename_i e; rw [e]; omega
    · omega
  · rw [rowS_upd _ _ _ _ h.hm, h.row, hf]
    by_cases e : j = task
    · rw [if_pos e, if_pos e]; simp
    · rw [if_neg e, if_neg e]

/-! ### nothing is found -/
/-- the minutes that were found are full, and all their tasks are in the queue -/
def Shut (L : List (Int × Int × Int)) (K : Int) (H : Nat → Nat → Bool) (Q : List Nat) (bm : Nat → Int) : Prop := ∀ m, m < 100 → bm m ≠ 0 → K ≤ colS L.length H m ∧ ∀ j, j < L.length → H j m = true → j ∈ Q
/-- the minutes of a task are found, or it has them -/
def Gone (L : List (Int × Int × Int)) (H : Nat → Nat → Bool) (bm : Nat → Int) (i : Nat) : Prop := ∀ m : Nat, m < 100 → ta L i ≤ m → (m : Int) < tb L i → bm m ≠ 0 ∨ H i m = true
theorem bf_fail {L : List (Int × Int × Int)} {K : Int} {H : Nat → Nat → Bool} {task : Nat} {Q : List Nat} {bm fr : Nat → Int} (hle : ∀ j, j < L.length → rowS H j ≤ tc L j) (hB : Bf L H task Q bm fr) (hlt : rowS H task < tc L task) (hs : Shut L K H Q bm) (hg : ∀ i ∈ Q, Gone L H bm i) : ¬ SevP L K := by
  have hcl : ∀ i ∈ Q, ClT L H (fun m => decide (bm m ≠ 0)) i := fun i hi m h1 h2 h3 => by
    rcases hg i hi m h1 h2 h3 with h | h
    · exact .inl (decide_eq_true h)
    · exact .inr h
  refine search_fail hle (hB.lt task hB.taskMem) hlt ⟨(fun _ h => (by cases h)), fun m hm h _ => (hs m hm (of_decide_eq_true h)).1, fun m hm h _ j hj hH => hcl j ((hs m hm (of_decide_eq_true h)).2 j hj hH)⟩ (hcl task hB.taskMem)
end Go.Proofs.Ytdafiblnanpiiaa
