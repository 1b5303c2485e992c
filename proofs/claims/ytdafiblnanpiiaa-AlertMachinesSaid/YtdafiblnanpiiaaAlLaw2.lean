/- Plain laws: the longest stretch of work, found in one go and by all beginnings; demands of parts of tasks; the tasks that are kept. -/
import Derived.Test.YtdafiblnanpiiaaAlLaw
import Derived.Test.YtdafiblnanpiiaaAlF
namespace Go.Proofs.Ytdafiblnanpiiaa
set_option linter.unusedVariables false

/-! ### the longest stretch of work -/
def busyR (p : List Int) (x y : Nat) : Prop := ∀ m, x ≤ m → m < y → ix p m ≠ -1
/-- (a, b) is the first one of the longest stretches among those that pass -/
structure Best (p : List Int) (ok : Nat → Nat → Prop) (a b : Nat) : Prop where
  ord : a ≤ b
  busy : busyR p a b
  none_ : a = b → a = 0
  most : ∀ x y, x < y → ok x y → busyR p x y → y - x ≤ b - a ∧ (y - x = b - a → a ≤ x)
theorem Best.same {p : List Int} {ok : Nat → Nat → Prop} {a b a' b' : Nat} (h : Best p ok a b) (h' : Best p ok a' b') (k : a < b → ok a b) (k' : a' < b' → ok a' b') : a = a' ∧ b = b' := by
  by_cases e : a < b
  · have m1 := h'.most a b e (k e) h.busy
    have o' := h'.ord
    have m2 := h.most a' b' (by omega) (k' (by omega)) h'.busy
    have e1 : b - a = b' - a' := by omega
    have := m1.2 e1
    have := m2.2 e1.symm
    omega
  · have o := h.ord
    have hn := h.none_ (by omega)
    by_cases e' : a' < b'
    · have m2 := h.most a' b' e' (k' e') h'.busy
      omega
    · have o' := h'.ord
      have := h'.none_ (by omega)
      omega
/-- in one go: where the stretch under way began, and the best one so far -/
def lonS (p : List Int) : Nat → Nat × Nat × Nat
  | 0 => (0, 0, 0)
  | m + 1 => if ix p m = -1 then (m + 1, (lonS p m).2) else if (lonS p m).2.2 - (lonS p m).2.1 < m + 1 - (lonS p m).1 then ((lonS p m).1, (lonS p m).1, m + 1) else lonS p m
theorem lonS_inv (p : List Int) (m : Nat) : (lonS p m).1 ≤ m ∧ busyR p (lonS p m).1 m ∧ ((lonS p m).1 = 0 ∨ ix p ((lonS p m).1 - 1) = -1) ∧ (lonS p m).2.2 ≤ m ∧ Best p (fun _ y => y ≤ m) (lonS p m).2.1 (lonS p m).2.2 := by
  induction m with
  | zero => exact ⟨Nat.le_refl _, fun m h1 h2 => by omega, .inl rfl, Nat.le_refl _, ⟨Nat.le_refl _, fun m h1 h2 => by simp only [lonS] at h2; omega, fun _ => rfl, fun x y h1 h2 => by omega⟩⟩
  | succ m ih =>
    obtain ⟨i1, i2, i3, i4, i5⟩ := ih
    have hs : lonS p (m + 1) = if ix p m = -1 then (m + 1, (lonS p m).2) else if (lonS p m).2.2 - (lonS p m).2.1 < m + 1 - (lonS p m).1 then ((lonS p m).1, (lonS p m).1, m + 1) else lonS p m := rfl
    rw [hs]; clear hs
    generalize lonS p m = S at *
    obtain ⟨f, a, b⟩ := S
    dsimp only at *
    by_cases h : ix p m = -1
    · rw [if_pos h]
      refine ⟨Nat.le_refl _, fun k h1 h2 => ?_, .inr h, Nat.le_succ_of_le i4, ⟨i5.ord, i5.busy, i5.none_, fun x y h1 h2 h3 => ?_⟩⟩
      · dsimp only at h1; omega
      · by_cases e : y = m + 1
        · subst e; exact absurd h (h3 m (by omega) (by omega))
        · exact i5.most x y h1 (by omega) h3
    · rw [if_neg h]
      have hf : busyR p f (m + 1) := fun k h1 h2 => by
        by_cases e : k = m
        · subst e; exact h
        · exact i2 k h1 (by omega)
      have hx : ∀ x, x ≤ m → busyR p x (m + 1) → f ≤ x := fun x hx hb => by
        rcases i3 with i3 | i3
        · omega
        · rcases Nat.lt_or_ge x f with hlt | hge
          · exact absurd i3 (hb (f - 1) (by omega) (by omega))
          · exact hge
      by_cases hlt : b - a < m + 1 - f
      · rw [if_pos hlt]
        refine ⟨Nat.le_succ_of_le i1, hf, i3, Nat.le_refl _, ⟨Nat.le_succ_of_le i1, hf, fun e => by dsimp only at e; omega, fun x y h1 h2 h3 => ?_⟩⟩
        dsimp only at h2 ⊢
        by_cases e : y = m + 1
        · subst e; have := hx x (by omega) h3; omega
        · have := i5.most x y h1 (by omega) h3; omega
      · rw [if_neg hlt]
        refine ⟨Nat.le_succ_of_le i1, hf, i3, Nat.le_succ_of_le i4, ⟨i5.ord, i5.busy, i5.none_, fun x y h1 h2 h3 => ?_⟩⟩
        dsimp only at h2 ⊢
        by_cases e : y = m + 1
        · subst e; have := hx x (by omega) h3; have := i5.ord; omega
        · exact i5.most x y h1 (by omega) h3
/-- how far the work goes from a minute on -/
def endR (p : List Int) (x : Nat) : Nat → Nat
  | 0 => x
  | k + 1 => if endR p x k = x + k ∧ ix p (x + k) ≠ -1 then x + k + 1 else endR p x k
theorem endR_spec (p : List Int) (x k : Nat) : x ≤ endR p x k ∧ endR p x k ≤ x + k ∧ busyR p x (endR p x k) ∧ (endR p x k < x + k → ix p (endR p x k) = -1) := by
  induction k with
  | zero => exact ⟨Nat.le_refl _, Nat.le_refl _, fun m h1 h2 => by simp only [endR] at h2; omega, fun h => by simp only [endR] at h; omega⟩
  | succ k ih =>
    obtain ⟨i1, i2, i3, i4⟩ := ih
    have hs : endR p x (k + 1) = if endR p x k = x + k ∧ ix p (x + k) ≠ -1 then x + k + 1 else endR p x k := rfl
    rw [hs]; clear hs
    by_cases h : endR p x k = x + k ∧ ix p (x + k) ≠ -1
    · rw [if_pos h]
      refine ⟨by omega, by omega, fun m h1 h2 => ?_, fun h2 => by omega⟩
      by_cases e : m = x + k
      · subst e; exact h.2
      · exact i3 m h1 (by omega)
    · rw [if_neg h]
      refine ⟨i1, by omega, i3, fun h2 => ?_⟩
      by_cases e : endR p x k = x + k
      · by_cases e2 : ix p (x + k) = -1
        · rw [e]; exact e2
        · exact absurd ⟨e, e2⟩ h
      · exact i4 (by omega)
/-- by all beginnings -/
def lonR (p : List Int) : Nat → Nat × Nat
  | 0 => (0, 0)
  | x + 1 => if (lonR p x).2 - (lonR p x).1 < endR p x (100 - x) - x then (x, endR p x (100 - x)) else lonR p x
theorem lonR_inv (p : List Int) (f : Nat) (hf : f ≤ 100) : (lonR p f).2 ≤ 100 ∧ ((lonR p f).1 < (lonR p f).2 → (lonR p f).1 < f) ∧ Best p (fun x y => x < f ∧ y ≤ 100) (lonR p f).1 (lonR p f).2 := by
  induction f with
  | zero => exact ⟨by simp [lonR], fun h => by simp [lonR] at h, ⟨Nat.le_refl _, fun m h1 h2 => by simp only [lonR] at h2; omega, fun _ => rfl, fun x y h1 h2 => by omega⟩⟩
  | succ f ih =>
    obtain ⟨i1, i2, i3⟩ := ih (by omega)
    obtain ⟨e1, e2, e3, e4⟩ := endR_spec p f (100 - f)
    have hs : lonR p (f + 1) = if (lonR p f).2 - (lonR p f).1 < endR p f (100 - f) - f then (f, endR p f (100 - f)) else lonR p f := rfl
    rw [hs]; clear hs
    generalize endR p f (100 - f) = t at *
    generalize lonR p f = S at *
    obtain ⟨a, b⟩ := S
    dsimp only at *
    have hx : ∀ y, f < y → y ≤ 100 → busyR p f y → y ≤ t := fun y h1 h2 h3 => by
      rcases Nat.lt_or_ge t y with hlt | hge
      · exact absurd (e4 (by omega)) (h3 t e1 hlt)
      · exact hge
    by_cases h : b - a < t - f
    · rw [if_pos h]
      refine ⟨by dsimp only; omega, fun _ => by dsimp only; omega, ⟨e1, e3, fun e => by dsimp only at e; omega, fun x y h1 h2 h3 => ?_⟩⟩
      dsimp only
      by_cases e : x = f
      · subst e; have := hx y h1 h2.2 h3; omega
      · have := i3.most x y h1 ⟨by omega, h2.2⟩ h3; omega
    · rw [if_neg h]
      refine ⟨i1, fun h2 => by have := i2 h2; omega, ⟨i3.ord, i3.busy, i3.none_, fun x y h1 h2 h3 => ?_⟩⟩
      dsimp only
      by_cases e : x = f
      · subst e
        have := hx y h1 h2.2 h3
        have := i3.ord
        refine ⟨by omega, fun h4 => ?_⟩
        by_cases hab : a < b
        · have := i2 hab; omega
        · have := i3.none_ (by omega); omega
      · exact i3.most x y h1 ⟨by omega, h2.2⟩ h3
theorem lon_same (p : List Int) : (lonS p 100).2 = lonR p 100 := by
  obtain ⟨_, _, _, h4, h5⟩ := lonS_inv p 100
  obtain ⟨k1, k2, k3⟩ := lonR_inv p 100 (Nat.le_refl _)
  have h5' : Best p (fun x y => x < 100 ∧ y ≤ 100) (lonS p 100).2.1 (lonS p 100).2.2 := ⟨h5.ord, h5.busy, h5.none_, fun x y h1 h2 h3 => h5.most x y h1 h2.2 h3⟩
  have := h5'.same k3 (fun h => ⟨by omega, h4⟩) (fun h => ⟨k2 h, k1⟩)
  exact Prod.ext this.1 this.2

/-! ### an overfull stretch -/
theorem ovf_none_iff (L : List (Int × Int × Int)) : ovf L = none ↔ 0 ≤ slk L := by
  unfold ovf
  rw [List.find?_eq_none]
  constructor
  · intro h
    rcases slk_cases L with h1 | ⟨a, b, h0, h1, h2, h3⟩
    · omega
    · have := h (a, b) (mem_strAll.2 ⟨h0, h1, h2⟩)
      simp only [isOv, decide_eq_true_eq] at this
      omega
  · intro h x hx
    have := (slkF_le L strAll).2.1 x hx
    unfold slk at h
    simp only [isOv, decide_eq_true_eq]
    omega
theorem ovf_some {L : List (Int × Int × Int)} {x : Int × Int} (h : ovf L = some x) : 0 ≤ x.1 ∧ x.1 < x.2 ∧ x.2 ≤ 100 ∧ x.2 - x.1 < dem L x.1 x.2 ∧ slk L < 0 := by
  have h1 := List.mem_of_find?_eq_some h
  have h2 := List.find?_some h
  have h3 := mem_strAll.1 h1
  have h4 : x.2 - x.1 < dem L x.1 x.2 := by simpa [isOv] using h2
  have h5 := slk_le L h3.1 h3.2.1 h3.2.2
  exact ⟨h3.1, h3.2.1, h3.2.2, h4, by omega⟩

/-! ### demands of parts of tasks -/
def inX (a b : Int) (x : Int × Int × Int) : Int := if a ≤ x.1 ∧ x.2.1 ≤ b then x.2.2 else 0
def demL (L : List (Int × Int × Int)) (a b : Int) : Int := L.foldr (fun x s => inX a b x + s) 0
theorem demL_append (L M : List (Int × Int × Int)) (a b : Int) : demL (L ++ M) a b = demL L a b + demL M a b := by
  induction L with
  | nil => simp [demL]
  | cons x L ih =>
    show inX a b x + demL (L ++ M) a b = inX a b x + demL L a b + demL M a b
    rw [ih]; omega
theorem dem_eq (L : List (Int × Int × Int)) (a b : Int) : dem L a b = demL L a b := by
  have : ∀ n, n ≤ L.length → demT L a b n = demL (L.take n) a b := fun n => by
    induction n with
    | zero => intro _; rfl
    | succ n ih =>
      intro h
      have hn : n < L.length := by omega
      simp only [demT]
      rw [ih (by omega), List.take_succ_eq_append_getElem hn, demL_append]
      congr 1
      simp [demL, inS, inX, ta, tb, tc, hn]
  unfold dem
  rw [this _ (Nat.le_refl _), List.take_length]
/-- tasks of which each one may stand in a valid list -/
def okX (x : Int × Int × Int) : Prop := (0 ≤ x.1 ∧ x.1 ≤ 99) ∧ (1 ≤ x.2.1 ∧ x.2.1 ≤ 100) ∧ x.1 < x.2.1 ∧ 1 ≤ x.2.2 ∧ x.2.2 ≤ 100
theorem okT_iff {L : List (Int × Int × Int)} : okT L ↔ (1 ≤ L.length ∧ L.length ≤ 12) ∧ ∀ x ∈ L, okX x := by
  unfold okT okX
  refine and_congr_right fun _ => ⟨fun h x hx => ?_, fun h k hk => ?_⟩
  · obtain ⟨k, hk, rfl⟩ := List.getElem_of_mem hx
    have := h k hk
    simpa [ta, tb, tc, hk] using this
  · have := h L[k] (List.getElem_mem hk)
    simpa [ta, tb, tc, hk] using this
theorem inX_nn {a b : Int} {x : Int × Int × Int} (h : okX x) : 0 ≤ inX a b x := by unfold inX; unfold okX at h; split <;> omega
theorem demL_sub {L M : List (Int × Int × Int)} (hs : M.Sublist L) (h : ∀ x ∈ L, okX x) (a b : Int) : demL M a b ≤ demL L a b := by
  induction hs with
  | slnil => exact Int.le_refl _
  | cons x hs ih =>
    have h1 := ih (fun y hy => h y (List.mem_cons_of_mem _ hy))
    have h2 := inX_nn (a := a) (b := b) (h x (List.mem_cons_self ..))
    show _ ≤ inX a b x + demL _ a b
    omega
  | cons_cons x hs ih =>
    have h1 := ih (fun y hy => h y (List.mem_cons_of_mem _ hy))
    show inX a b x + demL _ a b ≤ inX a b x + demL _ a b
    omega
theorem slk_mono {L M : List (Int × Int × Int)} (h : ∀ a b, demL M a b ≤ demL L a b) : slk L ≤ slk M := by
  rcases slk_cases M with h1 | ⟨a, b, h0, h1, h2, h3⟩
  · have := (slkF_le L strAll).1
    unfold slk at h1 ⊢; omega
  · have h4 := slk_le L h0 h1 h2
    have := h a b
    rw [dem_eq] at h3 h4
    omega
theorem slk_sub {L M : List (Int × Int × Int)} (hs : M.Sublist L) (h : ∀ x ∈ L, okX x) : slk L ≤ slk M := slk_mono (demL_sub hs h)
theorem okX_sub {L M : List (Int × Int × Int)} (hs : M.Sublist L) (h : ∀ x ∈ L, okX x) : ∀ x ∈ M, okX x := fun x hx => h x (hs.subset hx)
theorem okT_sub {L M : List (Int × Int × Int)} (hs : M.Sublist L) (h : okT L) (h1 : 1 ≤ M.length) : okT M := by
  rw [okT_iff] at h ⊢
  have := hs.length_le
  exact ⟨⟨h1, by omega⟩, okX_sub hs h.2⟩

/-! ### the tasks that are kept -/
def tx (L : List (Int × Int × Int)) (i : Nat) : Int × Int × Int := (ta L i, tb L i, tc L i)
theorem tx_get {L : List (Int × Int × Int)} {i : Nat} (h : i < L.length) : tx L i = L[i] := by simp [tx, ta, tb, tc, h]
/-- the tasks that are kept among the first ones: their numbers -/
def kepI (L : List (Int × Int × Int)) : Nat → List Int
  | 0 => []
  | i + 1 => if 0 ≤ slk ((kepI L i).map (fun k => tx L k.toNat) ++ [tx L i]) then kepI L i ++ [(i : Int)] else kepI L i
def kepT (L : List (Int × Int × Int)) (i : Nat) : List (Int × Int × Int) := (kepI L i).map (fun k => tx L k.toNat)
theorem kepI_succ (L : List (Int × Int × Int)) (i : Nat) : kepI L (i + 1) = if 0 ≤ slk (kepT L i ++ [tx L i]) then kepI L i ++ [(i : Int)] else kepI L i := rfl
theorem kepT_succ (L : List (Int × Int × Int)) (i : Nat) : kepT L (i + 1) = if 0 ≤ slk (kepT L i ++ [tx L i]) then kepT L i ++ [tx L i] else kepT L i := by
  unfold kepT
  simp only [kepI]
  split
  · rw [List.map_append]; rfl
  · rfl
theorem kepI_len (L : List (Int × Int × Int)) (i : Nat) : (kepI L i).length ≤ i := by
  induction i with
  | zero => exact Nat.le_refl _
  | succ i ih =>
    rw [kepI_succ]; split
    · rw [List.length_append, List.length_singleton]; omega
    · omega
theorem kepT_len (L : List (Int × Int × Int)) (i : Nat) : (kepT L i).length = (kepI L i).length := by simp [kepT]
theorem kepT_sub (L : List (Int × Int × Int)) (i : Nat) (hi : i ≤ L.length) : (kepT L i).Sublist (L.take i) := by
  induction i with
  | zero => exact List.Sublist.refl _
  | succ i ih =>
    rw [kepT_succ, List.take_succ_eq_append_getElem (by omega : i < L.length)]
    split
    · rw [tx_get (by omega : i < L.length)]; exact List.Sublist.append (ih (by omega)) (List.Sublist.refl _)
    · exact (ih (by omega)).trans (List.sublist_append_left _ _)
theorem kepM_sub (L : List (Int × Int × Int)) (i : Nat) (hi : i < L.length) : (kepT L i ++ [tx L i]).Sublist L := by
  refine List.Sublist.trans ?_ (List.take_sublist (i + 1) L)
  rw [List.take_succ_eq_append_getElem hi, tx_get hi]
  exact List.Sublist.append (kepT_sub L i (by omega)) (List.Sublist.refl _)
theorem kepM_ok (L : List (Int × Int × Int)) (h : okT L) (i : Nat) (hi : i < L.length) : okT (kepT L i ++ [tx L i]) := okT_sub (kepM_sub L i hi) h (by simp)
theorem kepI_bd (L : List (Int × Int × Int)) (i : Nat) : ∀ k ∈ kepI L i, 0 ≤ k ∧ k < i := by
  induction i with
  | zero => intro k hk; cases hk
  | succ i ih =>
    intro k hk
    rw [kepI_succ] at hk
    split at hk
    · rw [List.mem_append, List.mem_singleton] at hk
      rcases hk with hk | rfl
      · have := ih k hk; omega
      · omega
    · have := ih k hk; omega
theorem slk_nil : 0 ≤ slk [] := by
  rcases slk_cases [] with h | ⟨a, b, h0, h1, h2, h⟩
  · omega
  · rw [dem_eq, show demL [] a b = 0 from rfl] at h; omega
theorem kepT_slk (L : List (Int × Int × Int)) (i : Nat) : 0 ≤ slk (kepT L i) := by
  induction i with
  | zero => exact slk_nil
  | succ i ih =>
    rw [kepT_succ]
    split
    · assumption
    · exact ih
end Go.Proofs.Ytdafiblnanpiiaa
