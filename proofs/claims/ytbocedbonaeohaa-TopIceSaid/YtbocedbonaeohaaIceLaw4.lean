/- Plain law of lists of depths: ascending lists by their numbers, lamps and dark places told by numbers. -/
import Derived.Test.YtbocedbonaeohaaIceLaw3
namespace Go.Proofs.Ytbocedbonaeohaa
set_option linter.unusedVariables false

def natL (r : List Nat) : List Int := r.map fun (x : Nat) => (x : Int)
def nx (r : List Nat) (k : Nat) : Nat := r.getD k 0
theorem natL_len (r : List Nat) : (natL r).length = r.length := by simp [natL]
theorem ix_natL (r : List Nat) (k : Nat) : ix (natL r) k = (nx r k : Int) := by
  unfold ix natL nx
  by_cases h : k < r.length
  · simp [h]
  · rw [List.getD_eq_getElem?_getD, List.getD_eq_getElem?_getD, List.getElem?_eq_none (by simp; omega), List.getElem?_eq_none (by omega)]; rfl
theorem rises_iff (r : List Nat) (n : Nat) : rises r n ↔ (∀ k, k < r.length → nx r k ≤ n) ∧ ∀ k, k + 1 < r.length → nx r k < nx r (k + 1) := by
  induction r with
  | nil => simp [rises]
  | cons a r ih =>
    cases r with
    | nil =>
      simp only [rises, List.length_cons, List.length_nil]
      constructor
      · intro h; refine ⟨fun k hk => ?_, fun k hk => by omega⟩
        obtain rfl : k = 0 := by omega
        exact h
      · intro h; exact h.1 0 (by omega)
    | cons b r =>
      rw [rises, ih]
      constructor
      · rintro ⟨h1, h2, h3⟩
        refine ⟨fun k hk => ?_, fun k hk => ?_⟩
        · cases k with
          | zero => have := h2 0 (by simp); show a ≤ n; have : nx (b :: r) 0 = b := rfl; omega
          | succ k => exact h2 k (by simpa using hk)
        · cases k with
          | zero => exact h1
          | succ k => exact h3 k (by simpa using hk)
      · rintro ⟨h1, h2⟩
        exact ⟨h2 0 (by simp), fun k hk => h1 (k + 1) (by simpa using hk), fun k hk => h2 (k + 1) (by simpa using hk)⟩
/-- numbers from 0 to a limit that strictly ascend -/
def riseP (l : List Int) (n : Int) (k : Nat) : Bool := !(btw 0 (ix l k) n) || (decide (0 < k) && decide (ix l k ≤ ix l (k - 1)))
def riseB (l : List Int) (n : Int) : Bool := !(anyF (riseP l n) l.length)
theorem riseB_iff {l : List Int} {n : Nat} : riseB l n = true ↔ ∃ r, l = natL r ∧ rises r n := by
  unfold riseB
  rw [Bool.not_eq_true', anyF_no]
  constructor
  · intro h
    have hb : ∀ k, k < l.length → 0 ≤ ix l k ∧ ix l k ≤ n := fun k hk => by
      have := h k hk
      simp only [riseP, Bool.or_eq_false_iff, Bool.not_eq_false', btw_iff] at this
      exact this.1
    have e : l = natL (l.map Int.toNat) := by
      apply List.ext_getElem
      · simp [natL]
      · intro k h1 h2
        have := hb k h1
        simp only [ix, List.getD_eq_getElem?_getD, List.getElem?_eq_getElem h1, Option.getD_some] at this
        simp [natL]; omega
    refine ⟨l.map Int.toNat, e, ?_⟩
    rw [rises_iff]
    have hnx : ∀ k, (nx (l.map Int.toNat) k : Int) = ix l k := fun k => by rw [← ix_natL, ← e]
    refine ⟨fun k hk => ?_, fun k hk => ?_⟩
    · have := hb k (by simpa using hk); have := hnx k; omega
    · have h2 := h (k + 1) (by simpa using hk)
      simp only [riseP, Bool.or_eq_false_iff, Bool.and_eq_false_iff, decide_eq_false_iff_not, Nat.add_sub_cancel] at h2
      have := hnx k; have := hnx (k + 1); omega
  · rintro ⟨r, rfl, hr⟩ k hk
    rw [rises_iff] at hr
    rw [natL_len] at hk
    have h1 := hr.1 k hk
    unfold riseP
    simp only [ix_natL, Bool.or_eq_false_iff, Bool.not_eq_false', btw_iff, Bool.and_eq_false_iff, decide_eq_false_iff_not]
    refine ⟨by omega, ?_⟩
    cases k with
    | zero => left; omega
    | succ k => right; have := hr.2 k hk; simp only [Nat.add_sub_cancel]; omega
theorem riseB_no {l : List Int} {n : Int} {k : Nat} (hk : k < l.length) (h : riseP l n k = true) : riseB l n = false := by
  unfold riseB; rw [anyF_iff.2 ⟨k, hk, h⟩]; rfl
theorem riseB_yes {l : List Int} {n : Int} (h : ∀ k, k < l.length → riseP l n k = false) : riseB l n = true := by
  unfold riseB; rw [anyF_no.2 h]; rfl
theorem rises_count {r : List Nat} {n : Nat} (h : rises r n) : r.length ≤ n + 1 := by
  rw [rises_iff] at h
  have key : ∀ k, k < r.length → k ≤ nx r k := by
    intro k
    induction k with
    | zero => intro _; omega
    | succ k ih => intro hk; have := ih (by omega); have := h.2 k hk; omega
  cases hr : r.length with
  | zero => omega
  | succ m => have := key m (by omega); have := h.1 m (by omega); omega
theorem darks_iff {l : List Int} {s : Int} (r : List Nat) : darks l s r ↔ ∀ k, k + 1 < r.length → ¬ ∃ a, a ≤ l.length ∧ lit l s a (nx r k) ∧ lit l s a (nx r (k + 1)) := by
  induction r with
  | nil => simp [darks]
  | cons a r ih =>
    cases r with
    | nil => simp [darks]
    | cons b r =>
      rw [darks, ih]
      constructor
      · rintro ⟨h1, h2⟩ k hk
        cases k with
        | zero => exact h1
        | succ k => exact h2 k (by simpa using hk)
      · intro h
        exact ⟨h 0 (by simp), fun k hk => h (k + 1) (by simpa using hk)⟩
def darkP (l : List Int) (s : Int) (r : List Nat) (k : Nat) : Bool := decide (nx r k < dn l (nx r k) s) && decide (nx r (k + 1) < dn l (dn l (nx r k) s) s)
def darkB (l : List Int) (s : Int) (r : List Nat) : Bool := !(anyF (darkP l s r) (r.length - 1))
theorem darkB_iff {l : List Int} (hp : ∀ d ∈ l, 0 ≤ d) {s : Int} (hs : 0 ≤ s) {r : List Nat} (hr : rises r (l.length - 1)) (h0 : 0 < l.length) : darkB l s r = true ↔ darks l s r := by
  unfold darkB
  rw [Bool.not_eq_true', anyF_no, darks_iff]
  rw [rises_iff] at hr
  have key : ∀ k, k + 1 < r.length → (darkP l s r k = true ↔ ∃ a, a ≤ l.length ∧ lit l s a (nx r k) ∧ lit l s a (nx r (k + 1))) := fun k hk => by
    rw [far_lamp hp hs (hr.2 k hk) (by have := hr.1 (k + 1) hk; omega)]
    simp [darkP]
  constructor
  · intro h k hk hex
    have := h k (by omega)
    rw [(key k hk).2 hex] at this; cases this
  · intro h k hk
    cases hd : darkP l s r k
    · rfl
    · exact absurd ((key k (by omega)).1 hd) (h k (by omega))
end Go.Proofs.Ytbocedbonaeohaa
