/- Texts in words of few bits: the order of texts, and the shortest text: plain. -/
import Derived.Test.YtkjiancdhaocaaaDoorLib
namespace Go.Proofs.YtkjiancdhaocaaaDoor
open Go.Op (bytesLess)
set_option linter.unusedSimpArgs false
set_option linter.unusedVariables false

abbrev Tx := List UInt8
/-! ### the order -/
theorem bl_irr : ∀ a : Tx, bytesLess a a = false
  | [] => rfl
  | x :: a => by simp [bytesLess, bl_irr a, UInt8.lt_irrefl]
theorem bl_trans : ∀ {a b c : Tx}, bytesLess a b = true → bytesLess b c = true → bytesLess a c = true
  | _, [], _, h, _ => by simp [bytesLess] at h
  | _, _ :: _, [], _, h => by simp [bytesLess] at h
  | [], _ :: _, _ :: _, _, _ => rfl
  | x :: a, y :: b, z :: c, h1, h2 => by
    simp only [bytesLess, Bool.or_eq_true, decide_eq_true_eq, Bool.and_eq_true, beq_iff_eq] at h1 h2 ⊢
    rcases h1 with h1 | ⟨rfl, h1⟩
    · rcases h2 with h2 | ⟨rfl, h2⟩
      · exact .inl (UInt8.lt_trans h1 h2)
      · exact .inl h1
    · rcases h2 with h2 | ⟨rfl, h2⟩
      · exact .inl h2
      · exact .inr ⟨rfl, bl_trans h1 h2⟩
theorem bl_tri : ∀ a b : Tx, bytesLess a b = true ∨ a = b ∨ bytesLess b a = true
  | [], [] => .inr (.inl rfl)
  | [], _ :: _ => .inl rfl
  | _ :: _, [] => .inr (.inr rfl)
  | x :: a, y :: b => by
    simp only [bytesLess, Bool.or_eq_true, decide_eq_true_eq, Bool.and_eq_true, beq_iff_eq, List.cons.injEq]
    rcases (show x < y ∨ x = y ∨ y < x by
        rcases Nat.lt_trichotomy x.toNat y.toNat with h | h | h
        · exact .inl (UInt8.lt_iff_toNat_lt.2 h)
        · exact .inr (.inl (UInt8.toNat_inj.1 h))
        · exact .inr (.inr (UInt8.lt_iff_toNat_lt.2 h))) with h | rfl | h
    · exact .inl (.inl h)
    · rcases bl_tri a b with h | rfl | h
      · exact .inl (.inr ⟨rfl, h⟩)
      · exact .inr (.inl ⟨rfl, rfl⟩)
      · exact .inr (.inr (.inr ⟨rfl, h⟩))
    · exact .inr (.inr (.inl h))
theorem bl_pre (p : Tx) (a b : Tx) : bytesLess (p ++ a) (p ++ b) = bytesLess a b := by
  induction p with
  | nil => rfl
  | cons x p ih => simp [bytesLess, ih, UInt8.lt_irrefl]
/-- fewer bits, or as many and not behind -/
def leT (a b : Tx) : Bool := decide (a.length < b.length) || (decide (a.length = b.length) && (bytesLess a b || a == b))
theorem leT_iff {a b : Tx} : leT a b = true ↔ a.length < b.length ∨ (a.length = b.length ∧ (bytesLess a b = true ∨ a = b)) := by
  unfold leT; simp
theorem leT_refl (a : Tx) : leT a a = true := leT_iff.2 (.inr ⟨rfl, .inr rfl⟩)
theorem leT_total (a b : Tx) : leT a b = true ∨ leT b a = true := by
  rw [leT_iff, leT_iff]
  rcases Nat.lt_trichotomy a.length b.length with h | h | h
  · exact .inl (.inl h)
  · rcases bl_tri a b with k | k | k
    · exact .inl (.inr ⟨h, .inl k⟩)
    · exact .inl (.inr ⟨h, .inr k⟩)
    · exact .inr (.inr ⟨h.symm, .inl k⟩)
  · exact .inr (.inl h)
theorem leT_anti {a b : Tx} (h1 : leT a b = true) (h2 : leT b a = true) : a = b := by
  rw [leT_iff] at h1 h2
  rcases h1 with h1 | ⟨e1, h1⟩
  · rcases h2 with h2 | ⟨e2, -⟩ <;> omega
  · rcases h2 with h2 | ⟨e2, h2⟩
    · omega
    · rcases h1 with h1 | h1
      · rcases h2 with h2 | h2
        · have := bl_trans h1 h2; rw [bl_irr] at this; cases this
        · exact h2.symm
      · exact h1
theorem leT_trans {a b c : Tx} (h1 : leT a b = true) (h2 : leT b c = true) : leT a c = true := by
  rw [leT_iff] at h1 h2 ⊢
  rcases h1 with h1 | ⟨e1, h1⟩
  · rcases h2 with h2 | ⟨e2, -⟩
    · exact .inl (by omega)
    · exact .inl (by omega)
  · rcases h2 with h2 | ⟨e2, h2⟩
    · exact .inl (by omega)
    · refine .inr ⟨by omega, ?_⟩
      rcases h1 with h1 | rfl
      · rcases h2 with h2 | rfl
        · exact .inl (bl_trans h1 h2)
        · exact .inl h1
      · exact h2
theorem leT_pre (p : Tx) {a b : Tx} (h : leT a b = true) : leT (p ++ a) (p ++ b) = true := by
  rw [leT_iff] at h ⊢
  simp only [List.length_append, bl_pre]
  rcases h with h | ⟨h1, h2⟩
  · exact .inl (by omega)
  · refine .inr ⟨by omega, ?_⟩
    rcases h2 with h2 | rfl
    · exact .inl h2
    · exact .inr rfl
theorem leT_long (p a : Tx) : leT a (p ++ a) = true := by
  rw [leT_iff]
  cases p with
  | nil => exact .inr ⟨rfl, .inr rfl⟩
  | cons x p => exact .inl (by simp; omega)
/-! ### the order with none behind all -/
abbrev Ot := Option Tx
def leO : Ot → Ot → Prop
  | _, none => True
  | none, some _ => False
  | some a, some b => leT a b = true
theorem leO_refl : ∀ a : Ot, leO a a
  | none => trivial
  | some a => leT_refl a
theorem leO_trans : ∀ {a b c : Ot}, leO a b → leO b c → leO a c
  | _, _, none, _, _ => trivial
  | none, none, some _, _, h => h.elim
  | some _, none, some _, _, h => h.elim
  | none, some _, some _, h, _ => h.elim
  | some _, some _, some _, h1, h2 => leT_trans h1 h2
theorem leO_anti : ∀ {a b : Ot}, leO a b → leO b a → a = b
  | none, none, _, _ => rfl
  | none, some _, h, _ => h.elim
  | some _, none, _, h => h.elim
  | some _, some _, h1, h2 => by rw [leT_anti h1 h2]
def better : Ot → Ot → Ot
  | none, b => b
  | some a, none => some a
  | some a, some b => if leT a b then some a else some b
theorem better_l : ∀ a b : Ot, leO (better a b) a
  | none, b => by cases b <;> trivial
  | some a, none => leT_refl a
  | some a, some b => by
    simp only [better]
    split
    · exact leT_refl a
    · next h => exact (leT_total a b).resolve_left h
theorem better_r : ∀ a b : Ot, leO (better a b) b
  | none, b => leO_refl b
  | some a, none => trivial
  | some a, some b => by
    simp only [better]
    split
    · next h => exact h
    · exact leT_refl b
theorem better_or : ∀ a b : Ot, better a b = a ∨ better a b = b
  | none, b => .inr rfl
  | some a, none => .inl rfl
  | some a, some b => by
    simp only [better]
    split
    · exact .inl rfl
    · exact .inr rfl
theorem better_ge {c a b : Ot} (h1 : leO c a) (h2 : leO c b) : leO c (better a b) := by
  rcases better_or a b with h | h <;> rw [h] <;> assumption
def pre (p : Tx) (t : Ot) : Ot := t.map (p ++ ·)
theorem pre_le (p : Tx) : ∀ {a b : Ot}, leO a b → leO (pre p a) (pre p b)
  | _, none, _ => trivial
  | none, some _, h => h.elim
  | some _, some _, h => leT_pre p h
theorem pre_pre (p q : Tx) (a : Ot) : pre p (pre q a) = pre (p ++ q) a := by cases a <;> simp [pre]
theorem pre_long (p : Tx) : ∀ a : Ot, leO a (pre p a)
  | none => trivial
  | some a => leT_long p a
theorem pre_nil (a : Ot) : pre [] a = a := by cases a <;> rfl

/-! ### changes of a width -/
section
variable (up dn : Nat → Tx)
/-- the changes from one width to another one -/
def toT (i k : Nat) : Tx := if i ≤ k then (List.range' i (k - i)).flatMap up else (List.range' (k + 1) (i - k)).reverse.flatMap dn
theorem toT_self (i : Nat) : toT up dn i i = [] := by simp [toT]
theorem toT_up {i k : Nat} (h : i < k) : toT up dn i k = up i ++ toT up dn (i + 1) k := by
  unfold toT
  rw [if_pos (by omega), if_pos (by omega), show k - i = (k - (i + 1)) + 1 by omega, List.range'_succ]
  simp
theorem toT_dn {i k : Nat} (h : k ≤ i) : toT up dn (i + 1) k = dn (i + 1) ++ toT up dn i k := by
  unfold toT
  rw [if_neg (by omega)]
  by_cases e : k = i
  · subst e
    rw [if_pos (by omega), show k + 1 - k = 1 by omega]
    simp
  · rw [if_neg (by omega), show i + 1 - k = (i - k) + 1 by omega, List.range'_concat, List.reverse_append]
    simp
    congr 1
    omega
def upd (f : Nat → Ot) (i : Nat) (v : Ot) : Nat → Ot := fun j => if j = i then v else f j
/-- one width in a round of the relaxation: from the next greater one, then from the next lesser one -/
def oneU (f : Nat → Ot) (i : Nat) : Nat → Ot := if i + 1 < 5 then upd f i (better (f i) (pre (up i) (f (i + 1)))) else f
def oneD (f : Nat → Ot) (i : Nat) : Nat → Ot := if 0 < i then upd f i (better (f i) (pre (dn i) (f (i - 1)))) else f
def sw (f : Nat → Ot) : Nat → Nat → Ot
  | 0 => f
  | i + 1 => oneD dn (oneU up (sw f i) i) i
def rl (f : Nat → Ot) : Nat → Nat → Ot
  | 0 => f
  | r + 1 => sw up dn (rl f r) 5
/-- the least one of all that one can come to -/
def cand (f : Nat → Ot) (i k : Nat) : Ot := pre (toT up dn i k) (f k)
def minD (f : Nat → Ot) (i : Nat) : Nat → Ot
  | 0 => none
  | k + 1 => better (minD f i k) (cand up dn f i k)
theorem minD_le (f : Nat → Ot) (i : Nat) : ∀ {n k : Nat}, k < n → leO (minD up dn f i n) (cand up dn f i k)
  | n + 1, k, h => by
    simp only [minD]
    rcases Nat.lt_succ_iff_lt_or_eq.1 h with h1 | rfl
    · exact leO_trans (better_l _ _) (minD_le f i h1)
    · exact better_r _ _
theorem minD_ge (f : Nat → Ot) (i : Nat) {c : Ot} : ∀ {n : Nat}, (∀ k, k < n → leO c (cand up dn f i k)) → leO c (minD up dn f i n)
  | 0, _ => trivial
  | n + 1, h => better_ge (minD_ge f i fun k hk => h k (by omega)) (h n (by omega))
theorem minD_pre (f : Nat → Ot) (i : Nat) (p : Tx) {c : Ot} : ∀ {n : Nat}, (∀ k, k < n → leO c (pre p (cand up dn f i k))) → leO c (pre p (minD up dn f i n))
  | 0, _ => trivial
  | n + 1, h => by
    simp only [minD]
    rcases better_or (minD up dn f i n) (cand up dn f i n) with e | e <;> rw [e]
    · exact minD_pre f i p fun k hk => h k (by omega)
    · exact h n (by omega)
theorem bell_up (f : Nat → Ot) {i : Nat} (h : i + 1 < 5) : leO (minD up dn f i 5) (pre (up i) (minD up dn f (i + 1) 5)) := by
  refine minD_pre up dn f (i + 1) (up i) fun k hk => ?_
  unfold cand
  rw [pre_pre]
  by_cases e : i < k
  · rw [← toT_up up dn e]
    exact minD_le up dn f i hk
  · rw [toT_dn up dn (show k ≤ i by omega), ← List.append_assoc, ← pre_pre]
    exact leO_trans (minD_le up dn f i hk) (pre_long _ _)
theorem bell_dn (f : Nat → Ot) {i : Nat} (h0 : 0 < i) (h : i < 5) : leO (minD up dn f i 5) (pre (dn i) (minD up dn f (i - 1) 5)) := by
  obtain ⟨i, rfl⟩ : ∃ j, i = j + 1 := ⟨i - 1, by omega⟩
  rw [show i + 1 - 1 = i by omega]
  refine minD_pre up dn f i (dn (i + 1)) fun k hk => ?_
  unfold cand
  rw [pre_pre]
  by_cases e : k ≤ i
  · rw [← toT_dn up dn e]
    exact minD_le up dn f (i + 1) hk
  · rw [toT_up up dn (show i < k by omega), ← List.append_assoc, ← pre_pre]
    exact leO_trans (minD_le up dn f (i + 1) hk) (pre_long _ _)
/-! lower bound of each state -/
def Lo (D f : Nat → Ot) : Prop := ∀ i, i < 5 → leO (D i) (f i)
theorem lo_oneU {f g : Nat → Ot} {i : Nat} (h : Lo (fun i => minD up dn f i 5) g) (hi : i < 5) : Lo (fun i => minD up dn f i 5) (oneU up g i) := by
  unfold oneU
  split
  · next h1 =>
    intro j hj
    unfold upd
    split
    · next e =>
      subst e
      exact better_ge (h j hj) (leO_trans (bell_up up dn f h1) (pre_le _ (h (j + 1) h1)))
    · exact h j hj
  · exact h
theorem lo_oneD {f g : Nat → Ot} {i : Nat} (h : Lo (fun i => minD up dn f i 5) g) (hi : i < 5) : Lo (fun i => minD up dn f i 5) (oneD dn g i) := by
  unfold oneD
  split
  · next h1 =>
    intro j hj
    unfold upd
    split
    · next e =>
      subst e
      exact better_ge (h j hj) (leO_trans (bell_dn up dn f h1 hj) (pre_le _ (h (j - 1) (by omega))))
    · exact h j hj
  · exact h
theorem lo_sw {f g : Nat → Ot} (h : Lo (fun i => minD up dn f i 5) g) : ∀ {i : Nat}, i ≤ 5 → Lo (fun i => minD up dn f i 5) (sw up dn g i)
  | 0, _ => h
  | i + 1, hi => lo_oneD up dn (lo_oneU up dn (lo_sw h (by omega)) (by omega)) (by omega)
theorem lo_start (f : Nat → Ot) : Lo (fun i => minD up dn f i 5) f := fun i hi => by
  have := minD_le up dn f i hi
  unfold cand at this
  rwa [toT_self, pre_nil] at this
theorem lo_rl (f : Nat → Ot) : ∀ r, Lo (fun i => minD up dn f i 5) (rl up dn f r)
  | 0 => lo_start up dn f
  | r + 1 => lo_sw up dn (lo_rl f r) (Nat.le_refl 5)
/-! each state goes down -/
theorem oneU_le (g : Nat → Ot) (i j : Nat) : leO (oneU up g i j) (g j) := by
  unfold oneU
  split
  · unfold upd
    split
    · next e => subst e; exact better_l _ _
    · exact leO_refl _
  · exact leO_refl _
theorem oneD_le (g : Nat → Ot) (i j : Nat) : leO (oneD dn g i j) (g j) := by
  unfold oneD
  split
  · unfold upd
    split
    · next e => subst e; exact better_l _ _
    · exact leO_refl _
  · exact leO_refl _
theorem sw_le (g : Nat → Ot) : ∀ (i j : Nat), leO (sw up dn g i j) (g j)
  | 0, j => leO_refl _
  | i + 1, j => leO_trans (oneD_le dn _ i j) (leO_trans (oneU_le up _ i j) (sw_le g i j))
theorem sw_mono (g : Nat → Ot) (j : Nat) : ∀ {i i' : Nat}, i ≤ i' → leO (sw up dn g i' j) (sw up dn g i j)
  | i, 0, h => by obtain rfl : i = 0 := by omega
                  exact leO_refl _
  | i, i' + 1, h => by
    by_cases e : i = i' + 1
    · subst e; exact leO_refl _
    · exact leO_trans (leO_trans (oneD_le dn _ i' j) (oneU_le up _ i' j)) (sw_mono g j (show i ≤ i' by omega))
theorem sw_up (g : Nat → Ot) {i : Nat} (h : i + 1 < 5) : leO (sw up dn g 5 i) (pre (up i) (g (i + 1))) := by
  refine leO_trans (sw_mono up dn g i (show i + 1 ≤ 5 by omega)) ?_
  refine leO_trans (oneD_le dn _ i i) ?_
  unfold oneU
  rw [if_pos h]
  unfold upd
  rw [if_pos rfl]
  exact leO_trans (better_r _ _) (pre_le _ (sw_le up dn g i (i + 1)))
theorem sw_dn (g : Nat → Ot) {i : Nat} (h0 : 0 < i) (h : i < 5) : leO (sw up dn g 5 i) (pre (dn i) (g (i - 1))) := by
  refine leO_trans (sw_mono up dn g i (show i + 1 ≤ 5 by omega)) ?_
  show leO (oneD dn (oneU up (sw up dn g i) i) i i) _
  unfold oneD
  rw [if_pos h0]
  unfold upd
  rw [if_pos rfl]
  exact leO_trans (better_r _ _) (pre_le _ (leO_trans (oneU_le up _ i (i - 1)) (sw_le up dn g i (i - 1))))
theorem rl_near (f : Nat → Ot) : ∀ (r i k : Nat), i < 5 → k < 5 → i ≤ k + r → k ≤ i + r → leO (rl up dn f r i) (cand up dn f i k)
  | 0, i, k, hi, hk, h1, h2 => by
    obtain rfl : i = k := by omega
    unfold cand
    rw [toT_self, pre_nil]
    exact leO_refl _
  | r + 1, i, k, hi, hk, h1, h2 => by
    show leO (sw up dn (rl up dn f r) 5 i) _
    rcases Nat.lt_trichotomy i k with e | rfl | e
    · refine leO_trans (sw_up up dn _ (show i + 1 < 5 by omega)) ?_
      have := pre_le (up i) (rl_near f r (i + 1) k (by omega) hk (by omega) (by omega))
      unfold cand at this ⊢
      rwa [pre_pre, ← toT_up up dn e] at this
    · exact leO_trans (sw_le up dn _ 5 i) (rl_near f r i i hi hi (by omega) (by omega))
    · refine leO_trans (sw_dn up dn _ (show 0 < i by omega) hi) ?_
      have := pre_le (dn i) (rl_near f r (i - 1) k (by omega) hk (by omega) (by omega))
      unfold cand at this ⊢
      obtain ⟨j, rfl⟩ : ∃ j, i = j + 1 := ⟨i - 1, by omega⟩
      rw [show j + 1 - 1 = j by omega] at this
      rwa [pre_pre, ← toT_dn up dn (show k ≤ j by omega)] at this
/-- five rounds find the least one -/
theorem rl_min (f : Nat → Ot) {i : Nat} (hi : i < 5) : rl up dn f 5 i = minD up dn f i 5 :=
  leO_anti (minD_ge up dn f i fun k hk => rl_near up dn f 5 i k hi hk (by omega) (by omega)) (lo_rl up dn f 5 i hi)
end
end Go.Proofs.YtkjiancdhaocaaaDoor
