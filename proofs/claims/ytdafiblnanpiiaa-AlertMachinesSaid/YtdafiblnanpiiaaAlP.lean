/- Plain: which plans are right, what they do, when tasks are done, how many minutes are free. -/
import Derived.Test.YtdafiblnanpiiaaAlLaw
namespace Go.Proofs.Ytdafiblnanpiiaa
set_option linter.unusedVariables false

def plnB (n : Nat) (p : List Int) : Bool := decide (p.length = 100) && !(anyF (fun k => !(btw (-1) (ix p k) ((n : Int) - 1))) p.length)
theorem plnB_iff {n : Nat} {p : List Int} : plnB n p = true ↔ p.length = 100 ∧ ∀ m, m < 100 → -1 ≤ ix p m ∧ ix p m < n := by
  unfold plnB
  rw [Bool.and_eq_true, decide_eq_true_eq, Bool.not_eq_true', anyF_no]
  constructor
  · rintro ⟨h1, h2⟩
    refine ⟨h1, fun m hm => ?_⟩
    have := h2 m (by omega)
    rw [Bool.not_eq_false', btw_iff] at this
    omega
  · rintro ⟨h1, h2⟩
    refine ⟨h1, fun m hm => ?_⟩
    have := h2 m (by omega)
    rw [Bool.not_eq_false', btw_iff]
    omega
def AskE (L : List (Int × Int × Int)) (p : List Int) : Int := if vldT L then (if plnB L.length p then 0 else 81) else 80

def rightM (L : List (Int × Int × Int)) (p : List Int) (m : Nat) : Bool := decide (ix p m = -1) || openB (ta L (ix p m).toNat) (tb L (ix p m).toNat) m
def lessB (L : List (Int × Int × Int)) (p : List Int) : Bool := (List.range L.length).all fun i => decide (cntI p i ≤ tc L i)
def rightB (L : List (Int × Int × Int)) (p : List Int) : Bool := (List.range 100).all (rightM L p) && lessB L p
theorem lessB_iff {L : List (Int × Int × Int)} {p : List Int} : lessB L p = true ↔ ∀ i, i < L.length → cntI p i ≤ tc L i := by
  unfold lessB; rw [List.all_eq_true]
  exact ⟨fun h i hi => by simpa using h i (by simpa using hi), fun h i hi => by simpa using h i (by simpa using hi)⟩
theorem rightB_iff' {L : List (Int × Int × Int)} {p : List Int} : rightB L p = true ↔ (∀ m, m < 100 → rightM L p m = true) ∧ ∀ i, i < L.length → cntI p i ≤ tc L i := by
  unfold rightB
  rw [Bool.and_eq_true, lessB_iff, List.all_eq_true]
  exact ⟨fun h => ⟨fun m hm => h.1 m (by simpa using hm), h.2⟩, fun h => ⟨fun m hm => h.1 m (by simpa using hm), h.2⟩⟩
theorem rightB_iff {L : List (Int × Int × Int)} {p : List Int} (hp : plnB L.length p = true) : rightB L p = true ↔ Right L p := by
  have hpl := (plnB_iff.1 hp).2
  rw [rightB_iff']
  unfold Right
  refine and_congr_left fun _ => forall_congr' fun m => ?_
  refine imp_congr_right fun hm => ?_
  have hb := hpl m hm
  unfold rightM
  rw [Bool.or_eq_true, decide_eq_true_eq, openB_iff]
  constructor
  · rintro (h | h)
    · exact .inl h
    · by_cases e : ix p m = -1
      · exact .inl e
      · exact .inr ⟨(ix p m).toNat, by omega, by omega, h.1, h.2⟩
  · rintro (h | ⟨k, h1, h2, h3, h4⟩)
    · exact .inl h
    · rw [h2]; exact .inr ⟨h3, h4⟩
theorem take_succ_ix {p : List Int} {m : Nat} (hm : m < p.length) : p.take (m + 1) = p.take m ++ [ix p m] := by
  rw [List.take_succ_eq_append_getElem hm]
  simp [ix, hm]
theorem cntI_take_le (p : List Int) (m i : Nat) : cntI (p.take m) i ≤ cntI p i := by
  unfold cntI
  have : (p.take m).count (i : Int) ≤ p.count (i : Int) := (List.take_sublist m p).count_le _
  omega
theorem cntI_take_succ {p : List Int} {m : Nat} (hm : m < p.length) (i : Nat) : cntI (p.take (m + 1)) i = cntI (p.take m) i + (if ix p m = (i : Int) then 1 else 0) := by
  rw [take_succ_ix hm, cntI_snoc]
/-- what the program asks of the first minutes -/
def okW (L : List (Int × Int × Int)) (p : List Int) : Nat → Bool
  | 0 => true
  | m + 1 => okW L p m && (decide (ix p m = -1) || (openB (ta L (ix p m).toNat) (tb L (ix p m).toNat) m && decide (cntI (p.take (m + 1)) (ix p m).toNat ≤ tc L (ix p m).toNat)))
theorem okW_down {L : List (Int × Int × Int)} {p : List Int} {m : Nat} (d : Nat) (h : okW L p (m + d) = true) : okW L p m = true := by
  induction d with
  | zero => exact h
  | succ d ih =>
    have : okW L p (m + d + 1) = true := h
    simp only [okW, Bool.and_eq_true] at this
    exact ih this.1
theorem okW_all {L : List (Int × Int × Int)} {p : List Int} (hok : okT L) (hp : plnB L.length p = true) : okW L p 100 = rightB L p := by
  obtain ⟨hlen, hpl⟩ := plnB_iff.1 hp
  rw [Bool.eq_iff_iff, rightB_iff']
  constructor
  · intro h
    have hd : ∀ m, m ≤ 100 → okW L p m = true := fun m hm => okW_down (m := m) (100 - m) (by rw [show m + (100 - m) = 100 by omega]; exact h)
    have hs : ∀ m, m < 100 → ix p m = -1 ∨ (openB (ta L (ix p m).toNat) (tb L (ix p m).toNat) m = true ∧ cntI (p.take (m + 1)) (ix p m).toNat ≤ tc L (ix p m).toNat) := by
      intro m hm
      have := hd (m + 1) (by omega)
      simp only [okW, Bool.and_eq_true, Bool.or_eq_true, decide_eq_true_eq] at this
      exact this.2
    refine ⟨fun m hm => ?_, fun i hi => ?_⟩
    · unfold rightM
      rcases hs m hm with h1 | h1
      · simp [h1]
      · simp [h1.1]
    · have key : ∀ m, m ≤ 100 → cntI (p.take m) i ≤ tc L i := by
        intro m
        induction m with
        | zero => intro _; have := hok.2 i hi; rw [List.take_zero, cntI_nil]; omega
        | succ m ih =>
          intro hm
          by_cases e : ix p m = (i : Int)
          · rcases hs m (by omega) with h1 | h1
            · omega
            · have := h1.2
              rw [e, Int.toNat_natCast] at this
              exact this
          · rw [cntI_take_succ (by omega), if_neg e]
            have := ih (by omega); omega
      have := key 100 (Nat.le_refl _)
      rwa [List.take_of_length_le (by omega)] at this
  · rintro ⟨h1, h2⟩
    have key : ∀ m, m ≤ 100 → okW L p m = true := by
      intro m
      induction m with
      | zero => intro _; rfl
      | succ m ih =>
        intro hm
        simp only [okW, Bool.and_eq_true, Bool.or_eq_true, decide_eq_true_eq]
        refine ⟨ih (by omega), ?_⟩
        have hr := h1 m (by omega)
        unfold rightM at hr
        rw [Bool.or_eq_true, decide_eq_true_eq] at hr
        by_cases e : ix p m = -1
        · exact .inl e
        · have hb := hpl m (by omega)
          refine .inr ⟨hr.resolve_left e, Int.le_trans (cntI_take_le _ _ _) (h2 _ (by omega))⟩
    exact key 100 (Nat.le_refl _)
/-- how many minutes each task has -/
def cntsT (n : Nat) (p : List Int) : List Int := (List.range n).map (cntI p)
theorem cntsT_len (n : Nat) (p : List Int) : (cntsT n p).length = n := by simp [cntsT]
theorem cntsT_ix (n : Nat) (p : List Int) (i : Nat) (hi : i < n) : ix (cntsT n p) i = cntI p i := by simp [cntsT, ix, hi]
theorem cntsT_nil (n : Nat) : cntsT n [] = List.replicate n 0 := by
  apply List.ext_getElem
  · simp [cntsT]
  · intro i h1 h2; simp [cntsT, cntI]
theorem cntsT_rest (n : Nat) (p : List Int) (b : Int) (hb : b < 0) : cntsT n (p ++ [b]) = cntsT n p := by
  unfold cntsT
  refine List.map_congr_left fun i _ => ?_
  rw [cntI_snoc, if_neg (by omega), Int.add_zero]
theorem cntsT_work (n : Nat) (p : List Int) (b : Nat) (hb : b < n) : cntsT n (p ++ [(b : Int)]) = (cntsT n p).set b (cntI p b + 1) := by
  apply List.ext_getElem
  · simp [cntsT]
  · intro i h1 h2
    rw [List.getElem_set]
    simp only [cntsT, List.getElem_map, List.getElem_range, cntI_snoc]
    by_cases e : b = i
    · subst e; rw [if_pos rfl, if_pos rfl]
    · rw [if_neg e, if_neg (by omega)]; omega

/-! ### when tasks are done -/
/-- behind the last of the first minutes in which a task is worked on -/
def lastF (p : List Int) (i : Nat) : Nat → Int
  | 0 => -1
  | m + 1 => if ix p m = (i : Int) then (m : Int) + 1 else lastF p i m
def doneS (L : List (Int × Int × Int)) (p : List Int) (i : Nat) : Int := if cntI p i = tc L i then lastF p i 100 else -1
def donesT (L : List (Int × Int × Int)) (p : List Int) : List Int := (List.range L.length).map (doneS L p)
theorem lastF_bd (p : List Int) (i m : Nat) : -1 ≤ lastF p i m ∧ lastF p i m ≤ m := by
  induction m with
  | zero => simp [lastF]
  | succ m ih => simp only [lastF]; split <;> omega
/-- what the reference has behind m minutes -/
def doneR (L : List (Int × Int × Int)) (p : List Int) (i m : Nat) : Int := if cntI (p.take m) i = tc L i then lastF p i m else -1
theorem doneR_zero {L : List (Int × Int × Int)} {p : List Int} {i : Nat} : doneR L p i 0 = -1 := by unfold doneR; split <;> rfl
theorem doneR_other {L : List (Int × Int × Int)} {p : List Int} {i m : Nat} (hm : m < p.length) (h : ix p m ≠ (i : Int)) : doneR L p i (m + 1) = doneR L p i m := by
  unfold doneR
  rw [cntI_take_succ hm, if_neg h, Int.add_zero, lastF, if_neg h]
theorem doneR_hit {L : List (Int × Int × Int)} {p : List Int} {i m : Nat} (hm : m < p.length) (h : ix p m = (i : Int)) (h0 : tc L i - cntI (p.take m) i - 1 = 0) : doneR L p i (m + 1) = (m : Int) + 1 := by
  unfold doneR
  rw [cntI_take_succ hm, if_pos h, if_pos (by omega), lastF, if_pos h]
theorem doneR_short {L : List (Int × Int × Int)} {p : List Int} {i m : Nat} (hm : m < p.length) (h : ix p m = (i : Int)) (h0 : tc L i - cntI (p.take m) i - 1 ≠ 0) (hle : cntI p i ≤ tc L i) : doneR L p i (m + 1) = doneR L p i m := by
  have h1 := cntI_take_le p (m + 1) i
  rw [cntI_take_succ hm, if_pos h] at h1
  unfold doneR
  rw [cntI_take_succ hm, if_pos h, if_neg (by omega), if_neg (by omega)]
theorem doneR_all {L : List (Int × Int × Int)} {p : List Int} {i : Nat} (hm : p.length = 100) : doneR L p i 100 = doneS L p i := by
  unfold doneR doneS; rw [List.take_of_length_le (by omega)]
/-- what the program has, j minutes still to go -/
def doneB (L : List (Int × Int × Int)) (p : List Int) (i j : Nat) : Int := if cntI p i = tc L i ∧ j < lastF p i 100 then lastF p i 100 else -1
theorem lastF_mono {p : List Int} {i m : Nat} (d : Nat) : lastF p i m ≤ lastF p i (m + d) := by
  induction d with
  | zero => exact Int.le_refl _
  | succ d ih =>
    have : lastF p i (m + (d + 1)) = if ix p (m + d) = (i : Int) then ((m + d : Nat) : Int) + 1 else lastF p i (m + d) := rfl
    rw [this]
    have := lastF_bd p i m
    split <;> omega
theorem lastF_at {p : List Int} {i m : Nat} (h : ix p m = (i : Int)) (hm : m < 100) : (m : Int) + 1 ≤ lastF p i 100 := by
  have h1 := lastF_mono (p := p) (i := i) (m := m + 1) (99 - m)
  rw [show m + 1 + (99 - m) = 100 by omega] at h1
  have h2 : lastF p i (m + 1) = (m : Int) + 1 := by simp [lastF, h]
  omega
theorem lastF_is {p : List Int} {i : Nat} (m : Nat) : lastF p i m = -1 ∨ ∃ k : Nat, k < m ∧ lastF p i m = (k : Int) + 1 ∧ ix p k = (i : Int) := by
  induction m with
  | zero => exact .inl rfl
  | succ m ih =>
    simp only [lastF]
    by_cases h : ix p m = (i : Int)
    · rw [if_pos h]; exact .inr ⟨m, by omega, rfl, h⟩
    · rw [if_neg h]
      rcases ih with h1 | ⟨k, h1, h2, h3⟩
      · exact .inl h1
      · exact .inr ⟨k, by omega, h2, h3⟩
theorem doneB_start (L : List (Int × Int × Int)) (p : List Int) (i : Nat) : doneB L p i 100 = -1 := by
  unfold doneB; rw [if_neg]; have := lastF_bd p i 100; omega
theorem doneB_end (L : List (Int × Int × Int)) (p : List Int) (i : Nat) : doneB L p i 0 = doneS L p i := by
  unfold doneB doneS
  by_cases h : cntI p i = tc L i
  · by_cases h2 : (0 : Int) < lastF p i 100
    · rw [if_pos ⟨h, by simpa using h2⟩, if_pos h]
    · rw [if_neg (by simp; omega), if_pos h]
      rcases lastF_is (p := p) (i := i) 100 with h3 | ⟨k, _, h3, _⟩ <;> omega
  · rw [if_neg (by simp [h]), if_neg h]
theorem doneB_same {L : List (Int × Int × Int)} {p : List Int} {i m : Nat} (h : ¬ (ix p m = (i : Int) ∧ cntI p i = tc L i ∧ doneB L p i (m + 1) < 0)) (hm : m < 100) : doneB L p i m = doneB L p i (m + 1) := by
  unfold doneB at h ⊢
  by_cases h1 : cntI p i = tc L i
  · by_cases h2 : ((m + 1 : Nat) : Int) < lastF p i 100
    · rw [if_pos ⟨h1, by omega⟩, if_pos ⟨h1, h2⟩]
    · have hn : ¬ (cntI p i = tc L i ∧ ((m + 1 : Nat) : Int) < lastF p i 100) := fun e => h2 e.2
      rw [if_neg hn] at h ⊢
      have h4 : ix p m ≠ (i : Int) := fun e => h ⟨e, h1, by omega⟩
      rw [if_neg]
      rintro ⟨_, h3⟩
      rcases lastF_is (p := p) (i := i) 100 with h5 | ⟨k, _, h5, h6⟩
      · omega
      · have : k = m := by omega
        subst this; exact h4 h6
  · rw [if_neg (fun e => h1 e.1), if_neg (fun e => h1 e.1)]
theorem doneB_hit {L : List (Int × Int × Int)} {p : List Int} {i m : Nat} (h : ix p m = (i : Int)) (hc : cntI p i = tc L i) (h0 : doneB L p i (m + 1) < 0) (hm : m < 100) : doneB L p i m = (m : Int) + 1 := by
  unfold doneB at h0 ⊢
  have h1 := lastF_at h hm
  by_cases h2 : ((m + 1 : Nat) : Int) < lastF p i 100
  · rw [if_pos ⟨hc, h2⟩] at h0; omega
  · rw [if_pos ⟨hc, by omega⟩]; omega
def donesB (L : List (Int × Int × Int)) (p : List Int) (j : Nat) : List Int := (List.range L.length).map fun i => doneB L p i j
theorem donesB_len (L : List (Int × Int × Int)) (p : List Int) (j : Nat) : (donesB L p j).length = L.length := by simp [donesB]
theorem donesB_ix (L : List (Int × Int × Int)) (p : List Int) (j i : Nat) (hi : i < L.length) : ix (donesB L p j) i = doneB L p i j := by simp [donesB, ix, hi]
theorem donesB_start (L : List (Int × Int × Int)) (p : List Int) : donesB L p 100 = List.replicate L.length (-1) := by
  apply List.ext_getElem
  · simp [donesB]
  · intro i h1 h2; simp [donesB, doneB_start]
theorem donesB_end (L : List (Int × Int × Int)) (p : List Int) : donesB L p 0 = donesT L p := by
  unfold donesB donesT; exact List.map_congr_left fun i _ => doneB_end L p i
theorem donesB_same {L : List (Int × Int × Int)} {p : List Int} {m : Nat} (hm : m < 100) (h : ∀ i, i < L.length → ¬ (ix p m = (i : Int) ∧ cntI p i = tc L i ∧ doneB L p i (m + 1) < 0)) : donesB L p m = donesB L p (m + 1) := by
  unfold donesB
  exact List.map_congr_left fun i hi => doneB_same (h i (by simpa using hi)) hm
theorem donesB_hit {L : List (Int × Int × Int)} {p : List Int} {i m : Nat} (hm : m < 100) (hi : i < L.length) (h : ix p m = (i : Int)) (hc : cntI p i = tc L i) (h0 : doneB L p i (m + 1) < 0) : donesB L p m = (donesB L p (m + 1)).set i ((m : Int) + 1) := by
  apply List.ext_getElem
  · simp [donesB]
  · intro k h1 h2
    rw [List.getElem_set]
    simp only [donesB, List.getElem_map, List.getElem_range]
    by_cases e : i = k
    · subst e; rw [if_pos rfl]; exact doneB_hit h hc h0 hm
    · rw [if_neg e]
      exact doneB_same (fun hh => e (by omega)) hm

/-! ### free minutes -/
def freeT (p : List Int) : Nat → Int
  | 0 => 0
  | m + 1 => freeT p m + (if ix p m = -1 then 1 else 0)
theorem freeT_bd (p : List Int) (m : Nat) : 0 ≤ freeT p m ∧ freeT p m ≤ m := by
  induction m with
  | zero => simp [freeT]
  | succ m ih => simp only [freeT]; split <;> omega
theorem freeT_sm (p : List Int) (hp : ∀ m, m < 100 → -1 ≤ ix p m) : freeT p 100 = 100 - sm 100 (fun m => bI (decide (0 ≤ ix p m))) := by
  have key : ∀ n, n ≤ 100 → freeT p n = n - sm n (fun m => bI (decide (0 ≤ ix p m))) := by
    intro n
    induction n with
    | zero => intro _; rfl
    | succ n ih =>
      intro hn
      simp only [freeT, sm]
      rw [ih (by omega)]
      have := hp n (by omega)
      by_cases h : ix p n = -1
      · rw [if_pos h, h]; simp; omega
      · rw [if_neg h, decide_eq_true (by omega : 0 ≤ ix p n)]; simp; omega
  exact key 100 (Nat.le_refl _)
end Go.Proofs.Ytdafiblnanpiiaa
