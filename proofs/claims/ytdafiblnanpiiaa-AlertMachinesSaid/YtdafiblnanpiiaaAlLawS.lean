/- Plain law of several machines: assignments of minutes to tasks; a search that fails shows that there is none. -/
import Derived.Test.YtdafiblnanpiiaaAlLaw
namespace Go.Proofs.Ytdafiblnanpiiaa
set_option linter.unusedVariables false

/-- the minutes that a task has -/
def rowS (H : Nat → Nat → Bool) (i : Nat) : Int := sm 100 (fun m => bI (H i m))
/-- the tasks that a minute has, of the first n -/
def colS (n : Nat) (H : Nat → Nat → Bool) (m : Nat) : Int := sm n (fun i => bI (H i m))
/-- an assignment to k machines -/
structure Asg (L : List (Int × Int × Int)) (k : Int) (H : Nat → Nat → Bool) : Prop where
  win : ∀ i m, H i m = true → i < L.length ∧ m < 100 ∧ ta L i ≤ m ∧ (m : Int) < tb L i
  col : ∀ m, m < 100 → colS L.length H m ≤ k
def FullA (L : List (Int × Int × Int)) (H : Nat → Nat → Bool) : Prop := ∀ i, i < L.length → rowS H i = tc L i
def SevP (L : List (Int × Int × Int)) (k : Int) : Prop := ∃ H, Asg L k H ∧ FullA L H
open Classical in
noncomputable def sevB (L : List (Int × Int × Int)) (k : Int) : Bool := decide (SevP L k)
theorem sevB_iff {L : List (Int × Int × Int)} {k : Int} : sevB L k = true ↔ SevP L k := by unfold sevB; simp
theorem sevB_no {L : List (Int × Int × Int)} {k : Int} : sevB L k = false ↔ ¬ SevP L k := by unfold sevB; simp

/-- each minute that a task could have is among those, or the task has it -/
def ClT (L : List (Int × Int × Int)) (H : Nat → Nat → Bool) (T : Nat → Bool) (j : Nat) : Prop := ∀ m : Nat, m < 100 → ta L j ≤ m → (m : Int) < tb L j → T m = true ∨ H j m = true
theorem ClT.mono {L : List (Int × Int × Int)} {H : Nat → Nat → Bool} {T T' : Nat → Bool} {j : Nat} (h : ClT L H T j) (hT : ∀ m, T m = true → T' m = true) : ClT L H T' j := fun m h1 h2 h3 => (h m h1 h2 h3).imp (hT m) id

theorem sm_split (n : Nat) (f T : Nat → Bool) : sm n (fun m => bI (f m)) = sm n (fun m => bI (f m && T m)) + sm n (fun m => bI (f m && !T m)) := by
  rw [← sm_add]; exact sm_congr fun k _ => by cases f k <;> cases T k <;> rfl

theorem asg_fail {L : List (Int × Int × Int)} {k : Int} {H : Nat → Nat → Bool} {T : Nat → Bool} {i : Nat} (hle : ∀ j, j < L.length → rowS H j ≤ tc L j) (hi : i < L.length) (hlt : rowS H i < tc L i)
    (hfull : ∀ m, m < 100 → T m = true → k ≤ colS L.length H m) (hci : ClT L H T i) (hcl : ∀ m, m < 100 → T m = true → ∀ j, j < L.length → H j m = true → ClT L H T j) : ¬ SevP L k := by
  rintro ⟨A, hA, hF⟩
  classical
  let R : Nat → Bool := fun j => decide (j = i ∨ ∃ m, m < 100 ∧ T m = true ∧ H j m = true)
  have hcR : ∀ j, j < L.length → R j = true → ClT L H T j := by
    intro j hj hR
    simp only [R, decide_eq_true_eq] at hR
    rcases hR with rfl | ⟨m, h1, h2, h3⟩
    · exact hci
    · exact hcl m h1 h2 j hj h3
  have hle2 : ∀ j, j < L.length → R j = true → sm 100 (fun m => bI (A j m && !T m)) ≤ sm 100 (fun m => bI (H j m && !T m)) := by
    intro j hj hR
    refine sm_le fun m hm => ?_
    cases hT : T m
    · cases hAj : A j m
      · have := bI_bd (H j m); simpa using this.1
      · have hw := hA.win j m hAj
        rcases hcR j hj hR m hm hw.2.2.1 hw.2.2.2 with h1 | h1
        · rw [hT] at h1; cases h1
        · rw [h1]; exact Int.le_refl _
    · simp
  have hrow : ∀ j, j < L.length → R j = true → sm 100 (fun m => bI (H j m && T m)) + (tc L j - rowS H j) ≤ sm 100 (fun m => bI (A j m && T m)) := by
    intro j hj hR
    have e1 := sm_split 100 (fun m => A j m) T
    have e2 := sm_split 100 (fun m => H j m) T
    have e3 := hle2 j hj hR
    have e4 : sm 100 (fun m => bI (A j m)) = tc L j := hF j hj
    have e5 : sm 100 (fun m => bI (H j m)) = rowS H j := rfl
    omega
  have hS : sm L.length (fun j => if R j then sm 100 (fun m => bI (H j m && T m)) else 0) < sm L.length (fun j => if R j then sm 100 (fun m => bI (A j m && T m)) else 0) := by
    refine sm_lt (fun j hj => ?_) i hi ?_
    · by_cases hR : R j = true
      · rw [if_pos hR, if_pos hR]
        have := hrow j hj hR
        have := hle j hj
        omega
      · rw [if_neg hR, if_neg hR]; exact Int.le_refl _
    · have hR : R i = true := by simp [R]
      rw [if_pos hR, if_pos hR]
      have := hrow i hi hR
      omega
  have h1 : sm L.length (fun j => if R j then sm 100 (fun m => bI (A j m && T m)) else 0) ≤ sm 100 (fun m => if T m then k else 0) := by
    have a1 : sm L.length (fun j => if R j then sm 100 (fun m => bI (A j m && T m)) else 0) ≤ sm L.length (fun j => sm 100 (fun m => bI (A j m && T m))) := by
      refine sm_le fun j _ => ?_
      split
      · exact Int.le_refl _
      · have : sm 100 (fun _ => (0 : Int)) ≤ sm 100 (fun m => bI (A j m && T m)) := sm_le fun m _ => (bI_bd _).1
        rwa [sm_zero] at this
    refine Int.le_trans a1 ?_
    rw [sm_comm]
    refine sm_le fun m hm => ?_
    cases hT : T m
    · have : sm L.length (fun i => bI (A i m && false)) = sm L.length (fun _ => 0) := sm_congr fun i _ => by simp
      rw [this, sm_zero]; simp
    · have : sm L.length (fun i => bI (A i m && true)) = colS L.length A m := sm_congr fun i _ => by simp
      rw [this]; simpa using hA.col m hm
  have h2 : sm 100 (fun m => if T m then k else 0) ≤ sm L.length (fun j => if R j then sm 100 (fun m => bI (H j m && T m)) else 0) := by
    have a1 : sm L.length (fun j => if R j then sm 100 (fun m => bI (H j m && T m)) else 0) = sm L.length (fun j => sm 100 (fun m => bI (H j m && T m))) := by
      refine sm_congr fun j hj => ?_
      by_cases hR : R j = true
      · rw [if_pos hR]
      · rw [if_neg hR]
        have : sm 100 (fun m => bI (H j m && T m)) = sm 100 (fun _ => 0) := by
          refine sm_congr fun m hm => ?_
          cases hH : H j m
          · rfl
          · cases hT : T m
            · rfl
            · exact absurd (by simp only [R, decide_eq_true_eq]; exact .inr ⟨m, hm, hT, hH⟩) hR
        rw [this, sm_zero]
    rw [a1, sm_comm]
    refine sm_le fun m hm => ?_
    cases hT : T m
    · have : sm L.length (fun i => bI (H i m && false)) = sm L.length (fun _ => 0) := sm_congr fun i _ => by simp
      rw [this, sm_zero]; simp
    · have : sm L.length (fun i => bI (H i m && true)) = colS L.length H m := sm_congr fun i _ => by simp
      rw [this]; simpa using hfull m hm hT
  omega

/-! ### one place turned -/
def updH (H : Nat → Nat → Bool) (i m : Nat) (b : Bool) : Nat → Nat → Bool := fun j q => if j = i ∧ q = m then b else H j q
theorem updH_same (H : Nat → Nat → Bool) (i m : Nat) (b : Bool) : updH H i m b i m = b := by simp [updH]
theorem updH_other {H : Nat → Nat → Bool} {i m : Nat} {b : Bool} {j q : Nat} (h : ¬ (j = i ∧ q = m)) : updH H i m b j q = H j q := if_neg h
theorem sm_upd (n : Nat) (f : Nat → Int) (j : Nat) (x : Int) : sm n (fun k => if k = j then x else f k) = sm n f + (if j < n then x - f j else 0) := by
  induction n with
  | zero => rfl
  | succ n ih =>
    simp only [sm, ih]
    by_cases h : n = j
    · subst h; rw [if_pos rfl, if_neg (by omega), if_pos (by omega)]; omega
    · rw [if_neg h]
      by_cases h2 : j < n
      · rw [if_pos h2, if_pos (by omega)]; omega
      · rw [if_neg h2, if_neg (by omega)]; omega
theorem rowS_upd (H : Nat → Nat → Bool) (i m : Nat) (b : Bool) (hm : m < 100) (j : Nat) : rowS (updH H i m b) j = rowS H j + (if j = i then bI b - bI (H i m) else 0) := by
  by_cases h : j = i
  · subst h
    rw [if_pos rfl]
    have e : rowS (updH H j m b) j = sm 100 (fun q => if q = m then bI b else bI (H j q)) := sm_congr fun q _ => by
      by_cases hq : q = m
      · subst hq; simp [updH]
      · rw [updH_other (by simp [hq]), if_neg hq]
    rw [e, sm_upd, if_pos hm]; rfl
  · rw [if_neg h, Int.add_zero]
    exact sm_congr fun q _ => by rw [updH_other (by simp [h])]
theorem colS_upd (n : Nat) (H : Nat → Nat → Bool) (i m : Nat) (b : Bool) (hi : i < n) (q : Nat) : colS n (updH H i m b) q = colS n H q + (if q = m then bI b - bI (H i m) else 0) := by
  by_cases h : q = m
  · subst h
    rw [if_pos rfl]
    have e : colS n (updH H i q b) q = sm n (fun j => if j = i then bI b else bI (H j q)) := sm_congr fun j _ => by
      by_cases hq : j = i
      · subst hq; simp [updH]
      · rw [updH_other (by simp [hq]), if_neg hq]
    rw [e, sm_upd, if_pos hi]; rfl
  · rw [if_neg h, Int.add_zero]
    exact sm_congr fun j _ => by rw [updH_other (by simp [h])]

/-! ### the search, as it goes -/
/-- a task has one more minute; what was tried stays -/
structure FoundH (L : List (Int × Int × Int)) (k : Int) (H : Nat → Nat → Bool) (T : Nat → Bool) (i : Nat) (H' : Nat → Nat → Bool) : Prop where
  asg : Asg L k H'
  row : ∀ j, rowS H' j = rowS H j + (if j = i then 1 else 0)
  old : ∀ m, T m = true → ∀ j, H' j m = H j m
/-- more minutes are tried, all of them full, and closed -/
structure TriedH (L : List (Int × Int × Int)) (k : Int) (H : Nat → Nat → Bool) (T T' : Nat → Bool) : Prop where
  more : ∀ m, T m = true → T' m = true
  full : ∀ m, m < 100 → T' m = true → T m = false → k ≤ colS L.length H m
  cl : ∀ m, m < 100 → T' m = true → T m = false → ∀ j, j < L.length → H j m = true → ClT L H T' j
theorem TriedH.refl (L : List (Int × Int × Int)) (k : Int) (H : Nat → Nat → Bool) (T : Nat → Bool) : TriedH L k H T T := ⟨fun _ h => h, fun m _ h h' => absurd h (by rw [h']; simp), fun m _ h h' => absurd h (by rw [h']; simp)⟩
theorem TriedH.trans {L : List (Int × Int × Int)} {k : Int} {H : Nat → Nat → Bool} {T T1 T2 : Nat → Bool} (h1 : TriedH L k H T T1) (h2 : TriedH L k H T1 T2) : TriedH L k H T T2 := by
  refine ⟨fun m h => h2.more m (h1.more m h), fun m hm h h' => ?_, fun m hm h h' j hj hH => ?_⟩
  · cases hT : T1 m
    · exact h2.full m hm h hT
    · exact h1.full m hm hT h'
  · cases hT : T1 m
    · exact h2.cl m hm h hT j hj hH
    · exact (h1.cl m hm hT h' j hj hH).mono h2.more
theorem Asg.put {L : List (Int × Int × Int)} {k : Int} {H : Nat → Nat → Bool} (h : Asg L k H) {i m : Nat} (hi : i < L.length) (hm : m < 100) (h1 : ta L i ≤ m) (h2 : (m : Int) < tb L i) (hc : colS L.length H m < k) : Asg L k (updH H i m true) := by
  refine ⟨fun j q hq => ?_, fun q hq => ?_⟩
  · by_cases e : j = i ∧ q = m
    · rw [e.1, e.2]; exact ⟨hi, hm, h1, h2⟩
    · rw [updH_other e] at hq; exact h.win j q hq
  · rw [colS_upd _ _ _ _ _ hi]
    by_cases e : q = m
    · subst e; rw [if_pos rfl]; have := bI_bd (H i q); simp only [bI_true]; omega
    · rw [if_neg e]; have := h.col q hq; omega
theorem FoundH.put {L : List (Int × Int × Int)} {k : Int} {H : Nat → Nat → Bool} {T : Nat → Bool} (h : Asg L k H) {i m : Nat} (hi : i < L.length) (hm : m < 100) (h1 : ta L i ≤ m) (h2 : (m : Int) < tb L i) (hc : colS L.length H m < k) (hH : H i m = false) (hT : T m = false) : FoundH L k H T i (updH H i m true) := by
  refine ⟨h.put hi hm h1 h2 hc, fun j => ?_, fun q hq j => updH_other fun e => ?_⟩
  · rw [rowS_upd _ _ _ _ hm, hH]; by_cases e : j = i
    · rw [if_pos e, if_pos e]; simp
    · rw [if_neg e, if_neg e]
  · rw [e.2, hT] at hq; cases hq
/-- task j found another minute; i takes minute m from it -/
theorem FoundH.take {L : List (Int × Int × Int)} {k : Int} {H H' : Nat → Nat → Bool} {T T' : Nat → Bool} {i j m : Nat} (hf : FoundH L k H T' j H') (hA : Asg L k H) (hi : i < L.length) (hm : m < 100) (h1 : ta L i ≤ m) (h2 : (m : Int) < tb L i) (hH : H i m = false) (hj : H j m = true) (hT : T m = false) (hTm : T' m = true) (hmore : ∀ q, T q = true → T' q = true) :
    FoundH L k H T i (updH (updH H' j m false) i m true) := by
  have hij : i ≠ j := by rintro rfl; rw [hH] at hj; cases hj
  have hjn := (hA.win j m hj).1
  have e1 : H' j m = true := by rw [hf.old m hTm]; exact hj
  have e2 : H' i m = false := by rw [hf.old m hTm]; exact hH
  have e3 : updH H' j m false i m = false := by rw [updH_other (by simp [hij]), e2]
  refine ⟨⟨fun a q hq => ?_, fun q hq => ?_⟩, fun a => ?_, fun q hq a => ?_⟩
  · by_cases e : a = i ∧ q = m
    · rw [e.1, e.2]; exact ⟨hi, hm, h1, h2⟩
    · rw [updH_other e] at hq
      by_cases e' : a = j ∧ q = m
      · rw [e'.1, e'.2, updH_same] at hq; cases hq
      · rw [updH_other e'] at hq; exact hf.asg.win a q hq
  · rw [colS_upd _ _ _ _ _ hi, colS_upd _ _ _ _ _ hjn]
    have := hf.asg.col q hq
    by_cases e : q = m
    · subst e; rw [if_pos rfl, if_pos rfl, e1, e3]; simp; omega
    · rw [if_neg e, if_neg e]; omega
  · rw [rowS_upd _ _ _ _ hm, rowS_upd _ _ _ _ hm, hf.row, e1, e3]
    by_cases ei : a = i
    · subst ei; rw [if_neg hij, if_neg hij, if_pos rfl, if_pos rfl]; simp
    · by_cases ej : a = j
      · subst ej; rw [if_pos rfl, if_pos rfl, if_neg (fun h => hij h.symm), if_neg (fun h => hij h.symm)]; simp; omega
      · rw [if_neg ej, if_neg ej, if_neg ei, if_neg ei]; omega
  · have hqm : q ≠ m := by rintro rfl; rw [hT] at hq; cases hq
    rw [updH_other (by simp [hqm]), updH_other (by simp [hqm])]
    exact hf.old q (hmore q hq) a
/-- nothing is found: there is no assignment -/
theorem search_fail {L : List (Int × Int × Int)} {k : Int} {H : Nat → Nat → Bool} {T : Nat → Bool} {i : Nat} (hle : ∀ j, j < L.length → rowS H j ≤ tc L j) (hi : i < L.length) (hlt : rowS H i < tc L i) (ht : TriedH L k H (fun _ => false) T) (hc : ClT L H T i) : ¬ SevP L k :=
  asg_fail hle hi hlt (fun m hm h => ht.full m hm h rfl) hc (fun m hm h j hj hH => ht.cl m hm h rfl j hj hH)
end Go.Proofs.Ytdafiblnanpiiaa
