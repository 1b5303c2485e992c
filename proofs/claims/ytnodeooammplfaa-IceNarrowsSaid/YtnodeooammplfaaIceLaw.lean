/- Plain law of light in ice: how far it comes, down and up; the lamps, one by one. -/
import Derived.Test.YtnodeooammplfaaIceMath
namespace Go.Proofs.Ytnodeooammplfaa
set_option linter.unusedVariables false

/-- so many metres are passed with a strength -/
def wk : List Int → Int → Nat
  | [], _ => 0
  | d :: t, s => if d ≤ s then wk t (s - d) + 1 else 0
theorem wk_le (t : List Int) (s : Int) : wk t s ≤ t.length := by
  induction t generalizing s with
  | nil => simp [wk]
  | cons d t ih =>
    simp only [wk]
    split
    · have := ih (s - d); simp; omega
    · simp
theorem sum_nn {l : List Int} (h : ∀ d ∈ l, 0 ≤ d) : 0 ≤ l.sum := by
  induction l with
  | nil => simp
  | cons x l ih =>
    have h1 := h x (by simp)
    have h2 := ih fun y hy => h y (by simp [hy])
    simp only [List.sum_cons]; omega
theorem wk_iff {t : List Int} (h : ∀ d ∈ t, 0 ≤ d) {s : Int} (hs : 0 ≤ s) {j : Nat} (hj : j ≤ t.length) : j ≤ wk t s ↔ (t.take j).sum ≤ s := by
  induction t generalizing s j with
  | nil => obtain rfl : j = 0 := by simpa using hj
           simp; exact hs
  | cons d t ih =>
    have h1 := h d (by simp)
    have h2 : ∀ x ∈ t, 0 ≤ x := fun y hy => h y (by simp [hy])
    cases j with
    | zero => simp; exact hs
    | succ j =>
      have hn := sum_nn (l := t.take j) (fun x hx => h2 x (List.mem_of_mem_take hx))
      simp only [wk, List.take_succ_cons, List.sum_cons]
      split
      · next hd =>
        have := ih h2 (s := s - d) (j := j) (by omega) (by simpa using hj)
        rw [show (j + 1 ≤ wk t (s - d) + 1) = (j ≤ wk t (s - d)) by simp, this]
        omega
      · next hd =>
        constructor
        · intro h; omega
        · intro h; omega
def dn (l : List Int) (a : Nat) (s : Int) : Nat := a + wk (l.drop a) s
def up (l : List Int) (a : Nat) (s : Int) : Nat := a - wk (l.take a).reverse s
/-- the loss from the top -/
def cm (l : List Int) (k : Nat) : Int := (l.take k).sum
theorem cm_ix {l : List Int} {k : Nat} (hk : k ≤ l.length) : ix (cum l) k = cm l k := ix_cum l k hk
theorem cm_succ {l : List Int} {k : Nat} (hk : k < l.length) : cm l (k + 1) = cm l k + ix l k := by
  rw [← cm_ix (by omega), ← cm_ix (by omega)]; exact cum_succ l k hk
theorem cm_mono {l : List Int} (h : ∀ d ∈ l, 0 ≤ d) {i j : Nat} (hij : i ≤ j) (hj : j ≤ l.length) : cm l i ≤ cm l j := by
  rw [← cm_ix (by omega), ← cm_ix hj]; exact cum_mono l h i j hij hj
theorem cm_sub {l : List Int} {a b : Nat} (hab : a ≤ b) : cm l b - cm l a = ((l.drop a).take (b - a)).sum := by
  have : l.take b = l.take a ++ (l.drop a).take (b - a) := by
    rw [← List.take_add, show a + (b - a) = b by omega]
  unfold cm
  rw [this, List.sum_append]; omega
theorem dn_lo (l : List Int) (a : Nat) (s : Int) : a ≤ dn l a s := by unfold dn; omega
theorem dn_hi {l : List Int} {a : Nat} {s : Int} (ha : a ≤ l.length) : dn l a s ≤ l.length := by
  have := wk_le (l.drop a) s
  rw [List.length_drop] at this
  unfold dn; omega
theorem dn_iff {l : List Int} (h : ∀ d ∈ l, 0 ≤ d) {a b : Nat} {s : Int} (hs : 0 ≤ s) (hab : a ≤ b) (hb : b ≤ l.length) : b ≤ dn l a s ↔ cm l b - cm l a ≤ s := by
  rw [cm_sub hab, ← wk_iff (fun d hd => h d (List.mem_of_mem_drop hd)) hs (by rw [List.length_drop]; omega)]
  unfold dn; omega
theorem up_hi (l : List Int) (a : Nat) (s : Int) : up l a s ≤ a := by unfold up; omega
theorem up_iff {l : List Int} (h : ∀ d ∈ l, 0 ≤ d) {a b : Nat} {s : Int} (hs : 0 ≤ s) (hab : b ≤ a) (ha : a ≤ l.length) : up l a s ≤ b ↔ cm l a - cm l b ≤ s := by
  have hw := wk_iff (t := (l.take a).reverse) (fun d hd => h d (List.mem_of_mem_take (by simpa using hd))) hs (j := a - b) (by simp; omega)
  have hl : ((l.take a).reverse).length = a := by simp; omega
  have hle := wk_le (l.take a).reverse s
  have e : ((l.take a).reverse.take (a - b)).sum = cm l a - cm l b := by
    rw [cm_sub hab, List.take_reverse, List.sum_reverse, List.length_take, show min a l.length - (a - b) = b by omega, List.drop_take]
  rw [e] at hw
  rw [← hw]
  unfold up; omega
theorem dn_of {l : List Int} (h : ∀ d ∈ l, 0 ≤ d) {a r : Nat} {s : Int} (hs : 0 ≤ s) (har : a ≤ r) (hr : r ≤ l.length) (h1 : cm l r - cm l a ≤ s) (h2 : r < l.length → s < cm l (r + 1) - cm l a) : dn l a s = r := by
  have e1 := (dn_iff h hs har hr).2 h1
  have e2 := dn_hi (l := l) (a := a) (s := s) (by omega)
  by_cases e : dn l a s = r
  · exact e
  · have := (dn_iff h hs (a := a) (b := r + 1) (by omega) (by omega)).1 (by omega)
    have := h2 (by omega)
    omega
theorem up_of {l : List Int} (h : ∀ d ∈ l, 0 ≤ d) {a r : Nat} {s : Int} (hs : 0 ≤ s) (har : r ≤ a) (ha : a ≤ l.length) (h1 : cm l a - cm l r ≤ s) (h2 : 0 < r → s < cm l a - cm l (r - 1)) : up l a s = r := by
  have e1 := (up_iff h hs har ha).2 h1
  by_cases e : up l a s = r
  · exact e
  · have := (up_iff h hs (a := a) (b := r - 1) (by omega) ha).1 (by omega)
    have := h2 (by omega)
    omega
/-- the fewest lamps, and the first metre that each one has to light -/
def lampsF (l : List Int) (s : Int) : Nat → Nat → Option (List (Nat × Nat))
  | 0, _ => some []
  | f + 1, m => if m < l.length then (if dn l m s = m then none else (lampsF l s f (dn l (dn l m s) s)).map ((dn l m s, m) :: ·)) else some []
def lampsO (l : List Int) (s : Int) : Option (List (Nat × Nat)) := lampsF l s (l.length + 1) 0
theorem lampsF_end {l : List Int} {s : Int} {f m : Nat} (hm : l.length ≤ m) : lampsF l s f m = some [] := by
  cases f with
  | zero => rfl
  | succ f => simp [lampsF, show ¬ m < l.length by omega]
theorem lampsF_more {l : List Int} {s : Int} {f g m : Nat} (hf : l.length - m < f) (hg : l.length - m < g) : lampsF l s f m = lampsF l s g m := by
  induction f generalizing g m with
  | zero => omega
  | succ f ih =>
    cases g with
    | zero => omega
    | succ g =>
      simp only [lampsF]
      by_cases hm : m < l.length
      · rw [if_pos hm, if_pos hm]
        by_cases he : dn l m s = m
        · rw [if_pos he, if_pos he]
        · rw [if_neg he, if_neg he]
          have h1 := dn_lo l m s
          have h2 := dn_lo l (dn l m s) s
          rw [ih (g := g) (by omega) (by omega)]
      · rw [if_neg hm, if_neg hm]
end Go.Proofs.Ytnodeooammplfaa
