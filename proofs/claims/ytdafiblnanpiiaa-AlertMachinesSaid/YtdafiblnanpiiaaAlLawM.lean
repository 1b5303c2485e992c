/- Plain laws of several machines: more machines, one machine, overfull stretches, long tasks, fewer tasks, moved and turned tasks. -/
import Derived.Test.YtdafiblnanpiiaaAlLawS
namespace Go.Proofs.Ytdafiblnanpiiaa
set_option linter.unusedVariables false

theorem SevP.more {L : List (Int × Int × Int)} {k k' : Int} (h : SevP L k) (hk : k ≤ k') : SevP L k' := by
  obtain ⟨H, h1, h2⟩ := h
  exact ⟨H, ⟨h1.win, fun m hm => Int.le_trans (h1.col m hm) hk⟩, h2⟩

theorem sm_nonneg {n : Nat} {f : Nat → Int} (h : ∀ k, k < n → 0 ≤ f k) : 0 ≤ sm n f := by
  have := sm_le (n := n) (f := fun _ => 0) (g := f) h
  rwa [sm_zero] at this
theorem sm_mul (n : Nat) (k : Int) (f : Nat → Int) : sm n (fun m => k * f m) = k * sm n f := by
  induction n with
  | zero => simp [sm]
  | succ n ih => simp only [sm, ih]; rw [Int.mul_add]
/-- a single term is at most the sum -/
theorem sm_one_le {n : Nat} {f : Nat → Int} (h : ∀ k, k < n → 0 ≤ f k) (i : Nat) (hi : i < n) : f i ≤ sm n f := by
  have := sm_le (n := n) (f := fun k => if k = i then f i else 0) (g := f) (fun k hk => by
    by_cases e : k = i
    · subst e; simp
    · rw [if_neg e]; exact h k hk)
  have h2 := sm_upd n (fun _ => 0) i (f i)
  rw [sm_zero, if_pos hi] at h2
  omega

/-- a stretch that is overfull -/
theorem SevP.not_over {L : List (Int × Int × Int)} {k : Int} (a b : Nat) (hab : a ≤ b) (hb : b ≤ 100) (h : k * ((b : Int) - a) < dem L a b) : ¬ SevP L k := by
  rintro ⟨H, hA, hF⟩
  have e1 : dem L a b ≤ sm L.length (fun i => sm 100 (fun m => bI (H i m) * bI (decide (a ≤ m) && decide (m < b)))) := by
    unfold dem
    rw [demT_sm]
    refine sm_le fun i hi => ?_
    unfold inS
    split
    · rename_i hin
      rw [← hF i hi]
      refine sm_le fun m hm => ?_
      cases hH : H i m
      · simp
      · have hw := hA.win i m hH
        rw [show decide (a ≤ m) = true by simp; omega, show decide (m < b) = true by simp; omega]
        simp
    · refine sm_nonneg fun m _ => ?_
      have h1 := bI_bd (H i m)
      cases H i m <;> simp [bI_bd]
  rw [sm_comm] at e1
  have e2 : sm 100 (fun m => sm L.length (fun i => bI (H i m) * bI (decide (a ≤ m) && decide (m < b)))) ≤ sm 100 (fun m => k * bI (decide (a ≤ m) && decide (m < b))) := by
    refine sm_le fun m hm => ?_
    have hc := hA.col m hm
    cases hd : (decide (a ≤ m) && decide (m < b))
    · have : sm L.length (fun i => bI (H i m) * bI false) = sm L.length (fun _ => 0) := sm_congr fun i _ => by simp
      rw [this, sm_zero]; simp
    · have : sm L.length (fun i => bI (H i m) * bI true) = colS L.length H m := sm_congr fun i _ => by simp
      rw [this]; simpa using hc
  rw [sm_mul, sm_range 100 a b hab hb] at e2
  omega
/-- a task alone that is too long -/
theorem SevP.not_long {L : List (Int × Int × Int)} {k : Int} (hok : okT L) (i : Nat) (hi : i < L.length) (h : tb L i - ta L i < tc L i) : ¬ SevP L k := by
  rintro ⟨H, hA, hF⟩
  have hv := hok.2 i hi
  have e1 : rowS H i ≤ sm 100 (fun m => bI (decide ((ta L i).toNat ≤ m) && decide (m < (tb L i).toNat))) := by
    refine sm_le fun m hm => ?_
    cases hH : H i m
    · exact (bI_bd _).1
    · have hw := hA.win i m hH
      rw [show decide ((ta L i).toNat ≤ m) = true by simp; omega, show decide (m < (tb L i).toNat) = true by simp; omega]
      simp
  rw [sm_range _ _ _ (by omega) (by omega), hF i hi] at e1
  omega

/-! ### one machine -/
theorem asg_of_plan {L : List (Int × Int × Int)} {p : List Int} (hlen : p.length = 100) (hr : Right L p) (hall : ∀ i, i < L.length → cntI p i = tc L i) : SevP L 1 := by
  refine ⟨fun i m => decide (i < L.length) && decide (m < 100) && decide (ix p m = (i : Int)), ⟨fun i m h => ?_, fun m hm => ?_⟩, fun i hi => ?_⟩
  · simp only [Bool.and_eq_true, decide_eq_true_eq] at h
    rcases hr.1 m h.1.2 with h1 | ⟨k, h1, h2, h3, h4⟩
    · omega
    · have : k = i := by omega
      subst this
      exact ⟨h1, h.1.2, h3, h4⟩
  · have e : colS L.length (fun i m => decide (i < L.length) && decide (m < 100) && decide (ix p m = (i : Int))) m = sm L.length (fun k => if ix p m = (k : Int) then 1 else 0) := sm_congr fun k hk => by
      show bI (decide (k < L.length) && decide (m < 100) && decide (ix p m = (k : Int))) = _
      rw [decide_eq_true hk, decide_eq_true hm]
      by_cases h : ix p m = (k : Int) <;> simp [h]
    rw [e, sm_pick]
    split <;> omega
  · rw [← hall i hi, cntI_sm, hlen]
    exact sm_congr fun m hm => by
      show bI (decide (i < L.length) && decide (m < 100) && decide (ix p m = (i : Int))) = _
      rw [decide_eq_true hi, decide_eq_true hm]; simp
/-- the task that a minute has -/
def pickH (H : Nat → Nat → Bool) (m : Nat) : Nat → Int
  | 0 => -1
  | n + 1 => if H n m then (n : Int) else pickH H m n
theorem pickH_spec (H : Nat → Nat → Bool) (m n : Nat) : (pickH H m n = -1 ∧ ∀ i, i < n → H i m = false) ∨ ∃ i : Nat, i < n ∧ pickH H m n = i ∧ H i m = true := by
  induction n with
  | zero => exact .inl ⟨rfl, fun i hi => by omega⟩
  | succ n ih =>
    simp only [pickH]
    by_cases h : H n m = true
    · rw [if_pos h]; exact .inr ⟨n, by omega, rfl, h⟩
    · rw [if_neg h]
      rcases ih with ⟨h1, h2⟩ | ⟨i, h1, h2, h3⟩
      · refine .inl ⟨h1, fun i hi => ?_⟩
        rcases Nat.lt_succ_iff_lt_or_eq.1 hi with h4 | rfl
        · exact h2 i h4
        · simpa using h
      · exact .inr ⟨i, by omega, h2, h3⟩
theorem two_le_sm {n : Nat} {f : Nat → Bool} {i j : Nat} (hi : i < n) (hj : j < n) (hij : i ≠ j) (h1 : f i = true) (h2 : f j = true) : 2 ≤ sm n (fun k => bI (f k)) := by
  have e1 : sm n (fun k => if k = i then 1 else if k = j then 1 else 0) ≤ sm n (fun k => bI (f k)) := sm_le fun k hk => by
    by_cases a : k = i
    · subst a; simp [h1]
    · by_cases b : k = j
      · subst b; simp [h2, a]
      · rw [if_neg a, if_neg b]; exact (bI_bd _).1
  have e2 := sm_upd n (fun k => if k = j then 1 else 0) i 1
  have e3 := sm_upd n (fun _ => 0) j 1
  rw [sm_zero, if_pos hj] at e3
  rw [if_pos hi, if_neg hij, e3] at e2
  omega
theorem plan_of_asg {L : List (Int × Int × Int)} (h : SevP L 1) : ∃ p : List Int, p.length = 100 ∧ Right L p ∧ ∀ i, i < L.length → cntI p i = tc L i := by
  obtain ⟨H, hA, hF⟩ := h
  let p : List Int := (List.range 100).map fun m => pickH H m L.length
  have hp : ∀ m, m < 100 → ix p m = pickH H m L.length := fun m hm => by simp [p, ix, hm]
  have hlen : p.length = 100 := by simp [p]
  have hc : ∀ i, i < L.length → cntI p i = tc L i := by
    intro i hi
    rw [cntI_sm, hlen, ← hF i hi]
    refine sm_congr fun m hm => ?_
    rw [hp m hm]
    congr 1
    rw [Bool.eq_iff_iff, decide_eq_true_eq]
    rcases pickH_spec H m L.length with ⟨h1, h2⟩ | ⟨j, h1, h2, h3⟩
    · rw [h1, h2 i hi]; simp
    · rw [h2]
      constructor
      · intro e
        have : j = i := by omega
        subst this; exact h3
      · intro e
        by_cases e2 : j = i
        · rw [e2]
        · exfalso
          have := two_le_sm (f := fun a => H a m) h1 hi e2 h3 e
          have h4 := hA.col m hm
          unfold colS at h4
          omega
  refine ⟨p, hlen, ⟨fun m hm => ?_, fun i hi => by rw [hc i hi]; exact Int.le_refl _⟩, hc⟩
  rw [hp m hm]
  rcases pickH_spec H m L.length with ⟨h1, h2⟩ | ⟨j, h1, h2, h3⟩
  · exact .inl h1
  · exact .inr ⟨j, h1, h2, (hA.win j m h3).2.2⟩
theorem sev_one {L : List (Int × Int × Int)} (hok : okT L) : sevB L 1 = decide (0 ≤ slk L) := by
  rw [Bool.eq_iff_iff, sevB_iff, ← does_iff_slk L hok]
  constructor
  · intro h
    obtain ⟨p, h1, h2, h3⟩ := plan_of_asg h
    rw [does_iff_slk L hok, decide_eq_true_eq]
    exact slk_pos_of_all L p h1 h2 h3
  · intro h
    exact asg_of_plan (urg_len L) (urg_right L hok) (doesB_iff.1 h)

/-! ### less work, fewer tasks -/
/-- the first minutes of each task -/
def cutH (L : List (Int × Int × Int)) (H : Nat → Nat → Bool) : Nat → Nat → Bool := fun i m => H i m && decide (sm m (fun q => bI (H i q)) < tc L i)
theorem cutH_row (L : List (Int × Int × Int)) (H : Nat → Nat → Bool) (i : Nat) (h0 : 0 ≤ tc L i) (n : Nat) : sm n (fun m => bI (cutH L H i m)) = min (sm n (fun m => bI (H i m))) (tc L i) := by
  induction n with
  | zero => simp only [sm]; omega
  | succ n ih =>
    simp only [sm, ih]
    unfold cutH
    cases hH : H i n
    · simp
    · by_cases h : sm n (fun q => bI (H i q)) < tc L i
      · rw [decide_eq_true h]; simp; omega
      · rw [decide_eq_false h]; simp; omega
theorem SevP.enough {L : List (Int × Int × Int)} {k : Int} {H : Nat → Nat → Bool} (h0 : ∀ i, i < L.length → 0 ≤ tc L i) (hA : Asg L k H) (hF : ∀ i, i < L.length → tc L i ≤ rowS H i) : SevP L k := by
  refine ⟨cutH L H, ⟨fun i m h => ?_, fun m hm => ?_⟩, fun i hi => ?_⟩
  · unfold cutH at h; rw [Bool.and_eq_true] at h; exact hA.win i m h.1
  · refine Int.le_trans (sm_le fun i _ => ?_) (hA.col m hm)
    unfold cutH
    cases H i m
    · simp
    · exact (bI_bd _).2
  · have := cutH_row L H i (h0 i hi) 100
    have h2 := hF i hi
    unfold rowS at h2 ⊢
    rw [this]; omega
/-- the same tasks with less work -/
theorem SevP.less {L L' : List (Int × Int × Int)} {k : Int} (h : SevP L k) (hl : L'.length = L.length) (hw : ∀ i, i < L.length → ta L' i = ta L i ∧ tb L' i = tb L i ∧ tc L' i ≤ tc L i ∧ 0 ≤ tc L' i) : SevP L' k := by
  obtain ⟨H, hA, hF⟩ := h
  refine SevP.enough (H := H) (fun i hi => (hw i (by omega)).2.2.2) ⟨fun i m hm => ?_, fun m hm => ?_⟩ (fun i hi => ?_)
  · have := hA.win i m hm
    have h2 := hw i this.1
    exact ⟨by omega, by omega, by omega, by omega⟩
  · rw [hl]; exact hA.col m hm
  · have h2 := hw i (by omega)
    rw [hF i (by omega)]; omega
/-- a sum without one place -/
def skip (i j : Nat) : Nat := if j < i then j else j + 1
theorem sm_skip (n : Nat) (i : Nat) (hi : i ≤ n) (f : Nat → Int) : sm (n + 1) f = sm n (fun j => f (skip i j)) + f i := by
  induction n with
  | zero =>
    have : i = 0 := by omega
    subst this; simp [sm]
  | succ n ih =>
    by_cases h : i = n + 1
    · subst h
      have : sm (n + 1) (fun j => f (skip (n + 1) j)) = sm (n + 1) f := sm_congr fun k hk => by unfold skip; rw [if_pos hk]
      rw [this]; rfl
    · have e := ih (by omega)
      rw [show sm (n + 1 + 1) f = sm (n + 1) f + f (n + 1) from rfl, e]
      simp only [sm]
      rw [show skip i n = n + 1 by unfold skip; rw [if_neg (by omega)]]
      omega
/-- one task fewer -/
theorem SevP.fewer {L L' : List (Int × Int × Int)} {k : Int} (h : SevP L k) (i : Nat) (hi : i < L.length) (hl : L'.length + 1 = L.length) (hw : ∀ j, j < L'.length → ta L' j = ta L (skip i j) ∧ tb L' j = tb L (skip i j) ∧ tc L' j = tc L (skip i j)) : SevP L' k := by
  obtain ⟨H, hA, hF⟩ := h
  have hs : ∀ j, j < L'.length → skip i j < L.length := fun j hj => by unfold skip; split <;> omega
  refine ⟨fun j m => decide (j < L'.length) && H (skip i j) m, ⟨fun j m hm => ?_, fun m hm => ?_⟩, fun j hj => ?_⟩
  · simp only [Bool.and_eq_true, decide_eq_true_eq] at hm
    have := hA.win _ m hm.2
    have h2 := hw j hm.1
    exact ⟨hm.1, this.2.1, by rw [h2.1]; exact this.2.2.1, by rw [h2.2.1]; exact this.2.2.2⟩
  · have e := sm_skip L'.length i (by omega) (fun j => bI (H j m))
    have hc := hA.col m hm
    unfold colS at hc ⊢
    rw [← hl, e] at hc
    have e2 : sm L'.length (fun j => bI (decide (j < L'.length) && H (skip i j) m)) = sm L'.length (fun j => bI (H (skip i j) m)) := sm_congr fun j hj => by rw [decide_eq_true hj]; rfl
    rw [e2]
    have := bI_bd (H i m)
    omega
  · have e2 : rowS (fun j m => decide (j < L'.length) && H (skip i j) m) j = rowS H (skip i j) := sm_congr fun m _ => by
      show bI (decide (j < L'.length) && H (skip i j) m) = _
      rw [decide_eq_true hj]; rfl
    rw [e2, hF _ (hs j hj), (hw j hj).2.2]

/-! ### minutes turned -/
theorem SevP.turn {L L' : List (Int × Int × Int)} {k : Int} (s t : Int → Int) (hst : ∀ x y : Int, s x = y ↔ t y = x) (hl : L'.length = L.length) (hc : ∀ i, i < L.length → tc L' i = tc L i)
    (hw : ∀ i, i < L.length → ∀ x : Int, 0 ≤ x → x < 100 → ((ta L' i ≤ x ∧ x < tb L' i) ↔ (ta L i ≤ s x ∧ s x < tb L i)))
    (hin : ∀ i, i < L.length → ∀ y : Int, ta L i ≤ y → y < tb L i → 0 ≤ t y ∧ t y < 100) (h : SevP L k) : SevP L' k := by
  obtain ⟨H, hA, hF⟩ := h
  let G : Nat → Nat → Bool := fun i m => decide (m < 100) && (decide (0 ≤ s m) && decide (s m < 100)) && H i (s m).toNat
  have hG : ∀ i m, m < 100 → bI (G i m) = sm 100 (fun q => if s m = (q : Int) then bI (H i q) else 0) := by
    intro i m hm
    have := sm_pick 100 (s m) (fun q => bI (H i q))
    rw [this]
    by_cases h1 : 0 ≤ s m ∧ s m < 100
    · rw [if_pos (by simpa using h1)]
      simp only [G]
      rw [decide_eq_true hm, decide_eq_true h1.1, decide_eq_true h1.2]; rfl
    · rw [if_neg (by simpa using h1)]
      simp only [G]
      rw [show (decide (0 ≤ s m) && decide (s m < 100)) = false by rw [Bool.eq_false_iff]; simpa using h1]
      simp
  have hrow : ∀ i, i < L.length → rowS G i = rowS H i := by
    intro i hi
    have e1 : rowS G i = sm 100 (fun m => sm 100 (fun q => if s m = (q : Int) then bI (H i q) else 0)) := sm_congr fun m hm => hG i m hm
    rw [e1, sm_comm]
    refine sm_congr fun q hq => ?_
    have e2 : sm 100 (fun m => if s m = (q : Int) then bI (H i q) else 0) = sm 100 (fun m => if t q = (m : Int) then bI (H i q) else 0) := sm_congr fun m _ => by
      by_cases h1 : s m = (q : Int)
      · rw [if_pos h1, if_pos ((hst _ _).1 h1)]
      · rw [if_neg h1, if_neg (fun h2 => h1 ((hst _ _).2 h2))]
    rw [e2, sm_pick 100 (t q) (fun _ => bI (H i q))]
    cases hH : H i q
    · simp
    · have hwi := hA.win i q hH
      have := hin i hwi.1 q hwi.2.2.1 hwi.2.2.2
      rw [if_pos (by simpa using this)]
  refine ⟨G, ⟨fun i m hm => ?_, fun m hm => ?_⟩, fun i hi => ?_⟩
  · simp only [G, Bool.and_eq_true, decide_eq_true_eq] at hm
    have hwi := hA.win i _ hm.2
    have h1 : ((s m).toNat : Int) = s m := Int.toNat_of_nonneg hm.1.2.1
    have := (hw i hwi.1 m (by omega) (by omega)).2 ⟨by omega, by omega⟩
    exact ⟨by omega, hm.1.1, this.1, this.2⟩
  · rw [hl]
    by_cases h1 : 0 ≤ s m ∧ s m < 100
    · have e : colS L.length G m = colS L.length H (s m).toNat := sm_congr fun i _ => by
        simp only [G]; rw [decide_eq_true hm, decide_eq_true h1.1, decide_eq_true h1.2]; rfl
      rw [e]; exact hA.col _ (by omega)
    · have e : colS L.length G m = sm L.length (fun _ => 0) := sm_congr fun i _ => by
        simp only [G]
        rw [show (decide (0 ≤ s m) && decide (s m < 100)) = false by rw [Bool.eq_false_iff]; simpa using h1]
        simp
      rw [e, sm_zero]
      have h2 := hA.col 0 (by omega)
      have h3 : 0 ≤ colS L.length H 0 := sm_nonneg fun i _ => (bI_bd _).1
      omega
  · rw [hl] at hi
    rw [hrow i hi, hF i hi, hc i hi]
end Go.Proofs.Ytdafiblnanpiiaa
