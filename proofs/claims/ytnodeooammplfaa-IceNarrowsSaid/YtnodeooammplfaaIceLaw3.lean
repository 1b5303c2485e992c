/- Plain law of lamps that are given: the sweep over ascending lamps tells whether they light the ice. -/
import Derived.Test.YtnodeooammplfaaIceLaw2
namespace Go.Proofs.Ytnodeooammplfaa
set_option linter.unusedVariables false

def lightF (l : List Int) (s : Int) : List Nat → Nat → Bool
  | [], dark => decide (dark = l.length)
  | a :: r, dark => if dark < up l a s then false else lightF l s r (max dark (dn l a s))
theorem lightF_iff {l : List Int} (hp : ∀ d ∈ l, 0 ≤ d) {s : Int} (hs : 0 ≤ s) {ats : List Nat} (hr : rises ats l.length) {dark : Nat} (hd : dark ≤ l.length) :
    lightF l s ats dark = true ↔ ∀ m, dark ≤ m → m < l.length → ∃ a ∈ ats, lit l s a m := by
  induction ats generalizing dark with
  | nil =>
    simp only [lightF, decide_eq_true_eq]
    constructor
    · intro h m h1 h2; omega
    · intro h
      apply Classical.byContradiction; intro hn
      obtain ⟨a, ha, _⟩ := h dark (Nat.le_refl _) (by omega)
      simp at ha
  | cons a r ih =>
    have hal := rises_le hr a (by simp)
    simp only [lightF]
    by_cases hu : dark < up l a s
    · rw [if_pos hu]
      constructor
      · intro h; cases h
      · intro h
        have hu2 := up_hi l a s
        obtain ⟨b, hb, hl⟩ := h dark (Nat.le_refl _) (by omega)
        exfalso
        rcases List.mem_cons.1 hb with rfl | hb
        · have := hl.1; omega
        · have := up_mono hp hs (a := a) (b := b) (by have := rises_gt hr b hb; omega) (rises_le hr b (by simp [hb]))
          have := hl.1; omega
    · rw [if_neg hu]
      have hdn := dn_hi (l := l) (a := a) (s := s) hal
      rw [ih (rises_tail hr) (by omega)]
      constructor
      · intro h m h1 h2
        by_cases e : m < dn l a s
        · exact ⟨a, by simp, by omega, e⟩
        · obtain ⟨b, hb, hl⟩ := h m (by omega) h2
          exact ⟨b, by simp [hb], hl⟩
      · intro h m h1 h2
        obtain ⟨b, hb, hl⟩ := h m (by omega) h2
        rcases List.mem_cons.1 hb with rfl | hb
        · have := hl.2; omega
        · exact ⟨b, hb, hl⟩
theorem lightF_lights {l : List Int} (hp : ∀ d ∈ l, 0 ≤ d) {s : Int} (hs : 0 ≤ s) {ats : List Nat} (hr : rises ats l.length) : lightF l s ats 0 = true ↔ lights l s ats := by
  rw [lightF_iff hp hs hr (by omega)]
  exact ⟨fun h m hm => h m (by omega) hm, fun h m _ hm => h m hm⟩
/-- the program's test of dark places -/
def darkF (l : List Int) (s : Int) : List Nat → Bool
  | [] => true
  | [_] => true
  | x :: y :: r => !(decide (x < dn l x s) && decide (y < dn l (dn l x s) s)) && darkF l s (y :: r)
theorem darkF_iff {l : List Int} (hp : ∀ d ∈ l, 0 ≤ d) {s : Int} (hs : 0 ≤ s) {P : List Nat} (hr : rises P (l.length - 1)) (h0 : 0 < l.length) : darkF l s P = true ↔ darks l s P := by
  induction P with
  | nil => simp [darkF, darks]
  | cons x P ih =>
    cases P with
    | nil => simp [darkF, darks]
    | cons y P =>
      have hy := rises_le hr.2 y (by simp)
      rw [darkF, darks, ← ih hr.2, far_lamp hp hs hr.1 (by omega), Bool.and_eq_true, Bool.not_eq_true', ← Bool.not_eq_true, Bool.and_eq_true, decide_eq_true_eq, decide_eq_true_eq]
end Go.Proofs.Ytnodeooammplfaa
