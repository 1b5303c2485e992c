/- Plain law: the ice the other way up has the same losses and wants as many lamps. -/
import Derived.Test.YtbocedbonaeohaaIceLaw4
namespace Go.Proofs.Ytbocedbonaeohaa
set_option linter.unusedVariables false

theorem mets_reverse (L : List (Int × Int)) : mets L.reverse = (mets L).reverse := by
  induction L with
  | nil => rfl
  | cons x L ih =>
    rw [List.reverse_cons, mets_append, ih, show mets (x :: L) = List.replicate x.1.toNat x.2 ++ mets L from rfl, List.reverse_append, List.reverse_replicate]
    simp [mets]
theorem cm_reverse {l : List Int} {k : Nat} (hk : k ≤ l.length) : cm l.reverse k = cm l l.length - cm l (l.length - k) := by
  have e := cm_sub (l := l) (a := l.length - k) (b := l.length) (by omega)
  rw [e]
  unfold cm
  rw [List.take_reverse, List.sum_reverse, List.take_of_length_le (by rw [List.length_drop]; omega)]
theorem lit_reverse {l : List Int} (hp : ∀ d ∈ l, 0 ≤ d) {s : Int} (hs : 0 ≤ s) {a m : Nat} (ha : a ≤ l.length) (hm : m < l.length) (h : lit l s a m) : lit l.reverse s (l.length - a) (l.length - 1 - m) := by
  have hp' : ∀ d ∈ l.reverse, 0 ≤ d := fun d hd => hp d (by simpa using hd)
  rw [lit_iff hp hs ha hm] at h
  rw [lit_iff hp' hs (by simp) (by simp; omega), cm_reverse (by omega), cm_reverse (by omega), cm_reverse (by omega)]
  rw [show l.length - (l.length - 1 - m + 1) = m by omega, show l.length - (l.length - a) = a by omega, show l.length - (l.length - 1 - m) = m + 1 by omega]
  rcases h with ⟨h1, h2⟩ | ⟨h1, h2⟩
  · exact .inr ⟨by omega, by omega⟩
  · exact .inl ⟨by omega, by omega⟩
theorem lamps_reverse_le {l : List Int} (hp : ∀ d ∈ l, 0 ≤ d) {s : Int} (hs : 0 ≤ s) {K K' : List (Nat × Nat)} (h : lampsO l s = some K) (h' : lampsO l.reverse s = some K') : K'.length ≤ K.length := by
  have hp' : ∀ d ∈ l.reverse, 0 ≤ d := fun d hd => hp d (by simpa using hd)
  have g := lampsO_greedy h
  have := greedy_le hp' hs (lampsO_greedy h') (ats := K.map fun x => l.length - x.1) (fun x hx => by
    simp only [List.mem_map] at hx
    obtain ⟨y, _, rfl⟩ := hx
    simp) (fun m hm => by
    rw [List.length_reverse] at hm
    obtain ⟨a, ha, hl⟩ := g.lights hp hs (l.length - 1 - m) (by omega) (by omega)
    have h1 := lit_reverse hp hs (rises_le g.rises1.1 a ha) (by omega) hl
    rw [show l.length - 1 - (l.length - 1 - m) = m by omega] at h1
    simp only [List.mem_map] at ha
    obtain ⟨y, hy, rfl⟩ := ha
    exact ⟨_, List.mem_map.2 ⟨y, hy, rfl⟩, h1⟩)
  simpa using this
/-- how many lamps; none: there are none -/
def lampC (l : List Int) (s : Int) : Option Nat := (lampsO l s).map List.length
theorem lampC_reverse {l : List Int} (hp : ∀ d ∈ l, 0 ≤ d) {s : Int} (hs : 0 ≤ s) : lampC l.reverse s = lampC l s := by
  have hp' : ∀ d ∈ l.reverse, 0 ≤ d := fun d hd => hp d (by simpa using hd)
  have hn : lampsO l.reverse s = none ↔ lampsO l s = none := by
    rw [lampsO_none_iff hp' hs, lampsO_none_iff hp hs]
    constructor
    · rintro ⟨k, h1, h2⟩
      rw [List.length_reverse] at h1
      refine ⟨l.length - 1 - k, by omega, ?_⟩
      have : ix l.reverse k = ix l (l.length - 1 - k) := by
        unfold ix
        rw [List.getD_eq_getElem?_getD, List.getD_eq_getElem?_getD, List.getElem?_reverse (by omega)]
      rwa [← this]
    · rintro ⟨k, h1, h2⟩
      refine ⟨l.length - 1 - k, by simp; omega, ?_⟩
      have : ix l.reverse (l.length - 1 - k) = ix l k := by
        unfold ix
        rw [List.getD_eq_getElem?_getD, List.getD_eq_getElem?_getD, List.getElem?_reverse (by omega), show l.length - 1 - (l.length - 1 - k) = k by omega]
      rwa [this]
  unfold lampC
  cases h : lampsO l s with
  | none => rw [hn.2 h]
  | some K =>
    cases h' : lampsO l.reverse s with
    | none => rw [hn.1 h'] at h; cases h
    | some K' =>
      have h1 := lamps_reverse_le hp hs h h'
      have h2 := lamps_reverse_le hp' hs h' (by rw [List.reverse_reverse]; exact h)
      simp only [Option.map_some, Option.some.injEq]
      omega
theorem loss_reverse {l : List Int} {a b : Nat} (ha : a ≤ l.length) (hb : b ≤ l.length) : lossI (cum l.reverse) (l.length - a) (l.length - b) = lossI (cum l) a b := by
  have e1 := cm_reverse (l := l) (k := l.length - a) (by omega)
  have e2 := cm_reverse (l := l) (k := l.length - b) (by omega)
  rw [show l.length - (l.length - a) = a by omega] at e1
  rw [show l.length - (l.length - b) = b by omega] at e2
  unfold lossI
  rw [cm_ix (l := l.reverse) (by simp), cm_ix (l := l.reverse) (by simp), cm_ix ha, cm_ix hb, e1, e2]
  omega
theorem vld_reverse {L : List (Int × Int)} (h : vld L = true) : vld L.reverse = true := by
  obtain ⟨h1, h2, h3⟩ := vld_spec h
  unfold vld
  rw [List.length_reverse, btw_iff.2 ⟨by omega, by omega⟩, Bool.true_and, Bool.not_eq_true', anyF_no]
  intro k hk
  have := h3 (L.length - 1 - k) (by omega)
  have e1 : pa L.reverse k = pa L (L.length - 1 - k) := by
    unfold pa; rw [List.getD_eq_getElem?_getD, List.getD_eq_getElem?_getD, List.getElem?_reverse hk]
  have e2 : pb L.reverse k = pb L (L.length - 1 - k) := by
    unfold pb; rw [List.getD_eq_getElem?_getD, List.getD_eq_getElem?_getD, List.getElem?_reverse hk]
  rw [e1, e2, btw_iff.2 ⟨this.1, this.2.1⟩, btw_iff.2 ⟨this.2.2.1, this.2.2.2⟩]
  rfl
end Go.Proofs.Ytbocedbonaeohaa
