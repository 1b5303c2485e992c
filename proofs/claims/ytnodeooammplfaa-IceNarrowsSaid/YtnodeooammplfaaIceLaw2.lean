/- Plain law of lamps and dark places: greedy lamps light the ice, dark places prove that they are fewest. -/
import Derived.Test.YtnodeooammplfaaIceLaw
namespace Go.Proofs.Ytnodeooammplfaa
set_option linter.unusedVariables false

/-- a lamp lights a metre -/
def lit (l : List Int) (s : Int) (a m : Nat) : Prop := up l a s ≤ m ∧ m < dn l a s
/-- strictly ascending numbers from 0 to a limit -/
def rises : List Nat → Nat → Prop
  | [], _ => True
  | [a], n => a ≤ n
  | a :: b :: r, n => a < b ∧ rises (b :: r) n
theorem rises_le {r : List Nat} {n : Nat} (h : rises r n) : ∀ x ∈ r, x ≤ n := by
  induction r with
  | nil => simp
  | cons a r ih =>
    cases r with
    | nil => intro x hx; simp at hx; subst hx; exact h
    | cons b r =>
      have h2 := ih h.2
      intro x hx
      rcases List.mem_cons.1 hx with rfl | hx
      · have := h2 b (by simp); have := h.1; omega
      · exact h2 x hx
theorem rises_tail {a : Nat} {r : List Nat} {n : Nat} (h : rises (a :: r) n) : rises r n := by
  cases r with
  | nil => exact True.intro
  | cons b r => exact h.2
theorem rises_gt {a : Nat} {r : List Nat} {n : Nat} (h : rises (a :: r) n) : ∀ x ∈ r, a < x := by
  induction r generalizing a with
  | nil => simp
  | cons b r ih =>
    intro x hx
    rcases List.mem_cons.1 hx with rfl | hx
    · exact h.1
    · have := ih h.2 x hx; have := h.1; omega
/-- a lamp that lights two metres lights those between -/
theorem lit_between {l : List Int} {s : Int} {a x y z : Nat} (h1 : lit l s a x) (h2 : lit l s a z) (hxy : x ≤ y) (hyz : y ≤ z) : lit l s a y := ⟨by have := h1.1; omega, by have := h2.2; omega⟩
section
variable {l : List Int} (hp : ∀ d ∈ l, 0 ≤ d) {s : Int} (hs : 0 ≤ s)
include hp hs
theorem lit_iff {a m : Nat} (ha : a ≤ l.length) (hm : m < l.length) : lit l s a m ↔ (a ≤ m ∧ cm l (m + 1) - cm l a ≤ s) ∨ (m < a ∧ cm l a - cm l m ≤ s) := by
  unfold lit
  by_cases h : a ≤ m
  · have h1 := dn_iff hp hs (a := a) (b := m + 1) (by omega) (by omega)
    have h2 := up_hi l a s
    constructor
    · rintro ⟨_, h4⟩; exact .inl ⟨h, h1.1 (by omega)⟩
    · rintro (⟨_, h4⟩ | ⟨h4, _⟩)
      · exact ⟨by omega, by have := h1.2 h4; omega⟩
      · omega
  · have h1 := up_iff hp hs (a := a) (b := m) (by omega) ha
    have h2 := dn_lo l a s
    constructor
    · rintro ⟨h4, _⟩; exact .inr ⟨by omega, h1.1 h4⟩
    · rintro (⟨h4, _⟩ | ⟨_, h4⟩)
      · omega
      · exact ⟨h1.2 h4, by omega⟩
theorem lit_le {a m : Nat} (ha : a ≤ l.length) (hm : m < l.length) (h : lit l s a m) : ix l m ≤ s := by
  have h1 := cm_succ (l := l) hm
  rcases (lit_iff hp hs ha hm).1 h with ⟨h2, h3⟩ | ⟨h2, h3⟩
  · have := cm_mono hp h2 (by omega); omega
  · have := cm_mono hp (i := m + 1) (j := a) (by omega) ha; omega
theorem dn_eq_self {m : Nat} (hm : m < l.length) : dn l m s = m ↔ s < ix l m := by
  have h1 := dn_iff hp hs (a := m) (b := m + 1) (by omega) (by omega)
  have h2 := dn_lo l m s
  have h3 := cm_succ (l := l) hm
  constructor
  · intro h; apply Classical.byContradiction; intro hn
    have := h1.2 (by omega); omega
  · intro h; apply Classical.byContradiction; intro hn
    have := h1.1 (by omega); omega
theorem dn_mono {a b : Nat} (hab : a ≤ b) (hb : b ≤ l.length) : dn l a s ≤ dn l b s := by
  have h1 := dn_lo l b s
  have h2 := dn_hi (l := l) (a := a) (s := s) (by omega)
  have h3 := dn_hi (l := l) (a := b) (s := s) hb
  by_cases h : dn l a s ≤ b
  · omega
  · have h4 := (dn_iff hp hs (a := a) (b := dn l a s) (dn_lo _ _ _) h2).1 (Nat.le_refl _)
    have h5 := cm_mono hp hab hb
    exact (dn_iff hp hs (a := b) (by omega) h2).2 (by omega)
theorem up_mono {a b : Nat} (hab : a ≤ b) (hb : b ≤ l.length) : up l a s ≤ up l b s := by
  have h1 := up_hi l a s
  have h2 := up_hi l b s
  by_cases h : a ≤ up l b s
  · omega
  · have h4 := (up_iff hp hs (a := b) (b := up l b s) h2 hb).1 (Nat.le_refl _)
    have h5 := cm_mono hp hab hb
    exact (up_iff hp hs (a := a) (by omega) (by omega)).2 (by omega)
/-- the deepest lamp that lights a metre comes deepest -/
theorem far_lamp {x y : Nat} (hxy : x < y) (hy : y < l.length) : (∃ a, a ≤ l.length ∧ lit l s a x ∧ lit l s a y) ↔ x < dn l x s ∧ y < dn l (dn l x s) s := by
  have hd := dn_hi (l := l) (a := x) (s := s) (by omega)
  constructor
  · rintro ⟨a, ha, h1, h2⟩
    have e := lit_le hp hs ha (by omega) h1
    have e2 : x < dn l x s := by
      have := dn_lo l x s
      have := (dn_eq_self hp hs (m := x) (by omega)).1
      by_cases q : dn l x s = x
      · have := this q; omega
      · omega
    refine ⟨e2, ?_⟩
    have : a ≤ dn l x s := by
      by_cases q : a ≤ x
      · omega
      · rcases (lit_iff hp hs ha (by omega)).1 h1 with ⟨h3, _⟩ | ⟨_, h3⟩
        · omega
        · exact (dn_iff hp hs (by omega) ha).2 h3
    have := dn_mono hp hs this hd
    have := h2.2
    omega
  · rintro ⟨h1, h2⟩
    refine ⟨dn l x s, hd, ⟨?_, ?_⟩, ?_, h2⟩
    · exact (up_iff hp hs (by omega) hd).2 ((dn_iff hp hs (by omega) hd).1 (Nat.le_refl _))
    · have := dn_lo l (dn l x s) s; omega
    · have := (up_iff hp hs (a := dn l x s) (b := x) (by omega) hd).2 ((dn_iff hp hs (by omega) hd).1 (Nat.le_refl _))
      omega
end
/-- lamps light all the ice -/
def lights (l : List Int) (s : Int) (ats : List Nat) : Prop := ∀ m, m < l.length → ∃ a ∈ ats, lit l s a m
/-- no lamp lights two neighbours -/
def darks (l : List Int) (s : Int) : List Nat → Prop
  | [] => True
  | [_] => True
  | x :: y :: r => ¬ (∃ a, a ≤ l.length ∧ lit l s a x ∧ lit l s a y) ∧ darks l s (y :: r)
theorem darks_tail {l : List Int} {s : Int} {a : Nat} {r : List Nat} (h : darks l s (a :: r)) : darks l s r := by
  cases r with
  | nil => exact True.intro
  | cons b r => exact h.2
/-- no lamp lights two dark places -/
theorem darks_two {l : List Int} (hp : ∀ d ∈ l, 0 ≤ d) {s : Int} (hs : 0 ≤ s) {x : Nat} {P : List Nat} {n : Nat} (hr : rises (x :: P) n) (h : darks l s (x :: P)) {y a : Nat} (hy : y ∈ P) (ha : a ≤ l.length) (h1 : lit l s a x) (h2 : lit l s a y) : False := by
  cases P with
  | nil => simp at hy
  | cons z P =>
    apply h.1
    refine ⟨a, ha, h1, lit_between h1 h2 (by have := hr.1; omega) ?_⟩
    rcases List.mem_cons.1 hy with rfl | hy
    · exact Nat.le_refl _
    · have := rises_gt hr.2 y hy; omega
/-- no lamps that light the ice are fewer than any dark places -/
theorem darks_le {l : List Int} (hp : ∀ d ∈ l, 0 ≤ d) {s : Int} (hs : 0 ≤ s) {n : Nat} (P : List Nat) : ∀ ats : List Nat, rises P n → darks l s P → (∀ x ∈ ats, x ≤ l.length) → (∀ p ∈ P, ∃ a ∈ ats, lit l s a p) → P.length ≤ ats.length := by
  induction P with
  | nil => intro ats _ _ _ _; simp
  | cons x P ih =>
    intro ats hr hd hle hl
    obtain ⟨a, ha, hax⟩ := hl x (by simp)
    have h1 := ih (ats.erase a) (rises_tail hr) (darks_tail hd) (fun y hy => hle y (List.mem_of_mem_erase hy)) (fun p hp' => by
      obtain ⟨b, hb, hbp⟩ := hl p (by simp [hp'])
      refine ⟨b, ?_, hbp⟩
      have hne : b ≠ a := by
        rintro rfl
        exact darks_two hp hs hr hd hp' (hle b hb) hax hbp
      exact (List.mem_erase_of_ne hne).2 hb)
    rw [List.length_erase_of_mem ha] at h1
    have := List.length_pos_of_mem ha
    simp only [List.length_cons]
    omega

/-- lamps that are placed greedily from a metre on -/
inductive Greedy (l : List Int) (s : Int) : Nat → List (Nat × Nat) → Prop
  | done {m : Nat} (h : l.length ≤ m) : Greedy l s m []
  | more {m : Nat} {L : List (Nat × Nat)} (h : m < l.length) (h1 : dn l m s ≠ m) (r : Greedy l s (dn l (dn l m s) s) L) : Greedy l s m ((dn l m s, m) :: L)
theorem lampsF_greedy {l : List Int} {s : Int} (f m : Nat) (L : List (Nat × Nat)) (hf : l.length - m < f) (h : lampsF l s f m = some L) : Greedy l s m L := by
  induction f generalizing m L with
  | zero => omega
  | succ f ih =>
    simp only [lampsF] at h
    by_cases hm : m < l.length
    · rw [if_pos hm] at h
      by_cases he : dn l m s = m
      · rw [if_pos he] at h; cases h
      · rw [if_neg he] at h
        have h1 := dn_lo l m s
        have h2 := dn_lo l (dn l m s) s
        cases hr : lampsF l s f (dn l (dn l m s) s) with
        | none => rw [hr] at h; cases h
        | some K =>
          rw [hr] at h
          simp only [Option.map_some, Option.some.injEq] at h
          subst h
          exact .more hm he (ih _ _ (by omega) hr)
    · rw [if_neg hm] at h
      simp only [Option.some.injEq] at h
      subst h
      exact .done (by omega)
theorem lampsO_greedy {l : List Int} {s : Int} {L : List (Nat × Nat)} (h : lampsO l s = some L) : Greedy l s 0 L := lampsF_greedy _ _ _ (by omega) h
theorem lampsF_none {l : List Int} (hp : ∀ d ∈ l, 0 ≤ d) {s : Int} (hs : 0 ≤ s) (f m : Nat) (hf : l.length - m < f) (h : lampsF l s f m = none) : ∃ k, k < l.length ∧ s < ix l k := by
  induction f generalizing m with
  | zero => omega
  | succ f ih =>
    simp only [lampsF] at h
    by_cases hm : m < l.length
    · rw [if_pos hm] at h
      by_cases he : dn l m s = m
      · exact ⟨m, hm, (dn_eq_self hp hs hm).1 he⟩
      · rw [if_neg he] at h
        have h1 := dn_lo l m s
        have h2 := dn_lo l (dn l m s) s
        exact ih (dn l (dn l m s) s) (by omega) (by simpa using h)
    · rw [if_neg hm] at h; cases h
theorem Greedy.rises1 {l : List Int} {s : Int} {m : Nat} {L : List (Nat × Nat)} (h : Greedy l s m L) : rises (L.map (·.1)) l.length ∧ ∀ x ∈ L.map (·.1), m < x := by
  induction h with
  | done h => exact ⟨True.intro, by simp⟩
  | @more m L h h1 r ih =>
    have h2 := dn_lo l m s
    have h3 := dn_lo l (dn l m s) s
    have hd := dn_hi (l := l) (a := m) (s := s) (by omega)
    constructor
    · rw [List.map_cons]
      cases hL : L.map (·.1) with
      | nil => exact hd
      | cons b r' =>
        rw [hL] at ih
        exact ⟨by have := ih.2 b (by simp); omega, ih.1⟩
    · intro x hx
      rw [List.map_cons] at hx
      rcases List.mem_cons.1 hx with rfl | hx
      · simp only; omega
      · have := ih.2 x hx; omega
theorem Greedy.rises2 {l : List Int} {s : Int} {m : Nat} {L : List (Nat × Nat)} (h : Greedy l s m L) : rises (L.map (·.2)) (l.length - 1) ∧ (∀ x ∈ L.map (·.2), m ≤ x) := by
  induction h with
  | done h => exact ⟨True.intro, by simp⟩
  | @more m L h h1 r ih =>
    have h2 := dn_lo l m s
    have h3 := dn_lo l (dn l m s) s
    constructor
    · rw [List.map_cons]
      cases hL : L.map (·.2) with
      | nil => show m ≤ l.length - 1; omega
      | cons b r' =>
        rw [hL] at ih
        exact ⟨by have := ih.2 b (by simp); simp only; omega, ih.1⟩
    · intro x hx
      rw [List.map_cons] at hx
      rcases List.mem_cons.1 hx with rfl | hx
      · simp
      · have := ih.2 x hx; omega
section
variable {l : List Int} (hp : ∀ d ∈ l, 0 ≤ d) {s : Int} (hs : 0 ≤ s)
include hp hs
theorem Greedy.small {m : Nat} {L : List (Nat × Nat)} (h : Greedy l s m L) : ∀ k, m ≤ k → k < l.length → ix l k ≤ s := by
  induction h with
  | done h => intro k h1 h2; omega
  | @more m L h h1 r ih =>
    intro k hk hk2
    by_cases e : dn l (dn l m s) s ≤ k
    · exact ih k e hk2
    · have hd := dn_hi (l := l) (a := m) (s := s) (by omega)
      by_cases q : k < dn l m s
      · have : lit l s (dn l m s) k := ⟨by
          have := (up_iff hp hs (a := dn l m s) (b := m) (dn_lo _ _ _) hd).2 ((dn_iff hp hs (dn_lo _ _ _) hd).1 (Nat.le_refl _))
          omega, by have := dn_lo l (dn l m s) s; omega⟩
        exact lit_le hp hs hd hk2 this
      · exact lit_le hp hs hd hk2 ⟨by have := up_hi l (dn l m s) s; omega, by omega⟩
theorem lampsO_none_iff : lampsO l s = none ↔ ∃ k, k < l.length ∧ s < ix l k := by
  constructor
  · intro h; exact lampsF_none hp hs _ _ (by omega) h
  · rintro ⟨k, h1, h2⟩
    cases h : lampsO l s with
    | none => rfl
    | some L => have := (lampsO_greedy h).small hp hs k (by omega) h1; omega
theorem Greedy.lights {m : Nat} {L : List (Nat × Nat)} (h : Greedy l s m L) : ∀ k, m ≤ k → k < l.length → ∃ a ∈ L.map (·.1), lit l s a k := by
  induction h with
  | done h => intro k h1 h2; omega
  | @more m L h h1 r ih =>
    intro k hk hk2
    by_cases e : dn l (dn l m s) s ≤ k
    · obtain ⟨a, ha, hl⟩ := ih k e hk2
      exact ⟨a, by simp at ha ⊢; exact .inr ha, hl⟩
    · have hd := dn_hi (l := l) (a := m) (s := s) (by omega)
      refine ⟨dn l m s, by simp, ?_, by omega⟩
      have := (up_iff hp hs (a := dn l m s) (b := m) (dn_lo _ _ _) hd).2 ((dn_iff hp hs (dn_lo _ _ _) hd).1 (Nat.le_refl _))
      omega
theorem Greedy.darks {m : Nat} {L : List (Nat × Nat)} (h : Greedy l s m L) : darks l s (L.map (·.2)) := by
  induction h with
  | done h => exact True.intro
  | @more m L h h1 r ih =>
    have h2 := dn_lo l m s
    have h3 := dn_lo l (dn l m s) s
    cases r with
    | done h => exact True.intro
    | more h' h1' r' =>
      refine ⟨?_, ih⟩
      intro hex
      have := (far_lamp hp hs (x := m) (y := dn l (dn l m s) s) (by omega) h').1 hex
      omega
/-- greedy lamps are fewest -/
theorem greedy_le {L : List (Nat × Nat)} (h : Greedy l s 0 L) {ats : List Nat} (ha : ∀ x ∈ ats, x ≤ l.length) (hl : Go.Proofs.Ytnodeooammplfaa.lights l s ats) : L.length ≤ ats.length := by
  have := darks_le hp hs (n := l.length - 1) (L.map (·.2)) ats h.rises2.1 (h.darks hp hs) ha (fun p hp' => by
    have := rises_le h.rises2.1 p hp'
    have hne : 0 < l.length := by
      cases h with
      | done h => simp at hp'
      | more h _ _ => omega
    exact hl p (by omega))
  simpa using this
end
/-- a greater strength lights what a lesser one lights -/
theorem lit_stronger {l : List Int} (hp : ∀ d ∈ l, 0 ≤ d) {s s' : Int} (hs : 0 ≤ s) (hss : s ≤ s') {a m : Nat} (ha : a ≤ l.length) (hm : m < l.length) (h : lit l s a m) : lit l s' a m := by
  rw [lit_iff hp hs ha hm] at h
  rw [lit_iff hp (by omega) ha hm]
  omega
theorem Greedy.len {l : List Int} {s : Int} {m : Nat} {L : List (Nat × Nat)} (h : Greedy l s m L) : L.length + m ≤ max l.length m := by
  induction h with
  | done h => simp; omega
  | @more m L h h1 r ih =>
    have h2 := dn_lo l m s
    have h3 := dn_lo l (dn l m s) s
    simp only [List.length_cons]
    have : dn l (dn l m s) s ≤ max l.length (dn l (dn l m s) s) := by omega
    by_cases e : dn l (dn l m s) s ≤ l.length
    · omega
    · cases r with
      | done h => simp; omega
      | more h _ _ => omega
/-- what lamps there are -/
def lampN (l : List Int) (s : Int) (k : Nat) : Bool := match lampsO l s with | none => false | some L => decide (L.length ≤ k)
theorem lampN_mono {l : List Int} (hp : ∀ d ∈ l, 0 ≤ d) {s s' : Int} (hs : 0 ≤ s) (hss : s ≤ s') {k k' : Nat} (hk : k ≤ k') (h : lampN l s k = true) : lampN l s' k' = true := by
  unfold lampN at h ⊢
  cases hL : lampsO l s with
  | none => rw [hL] at h; cases h
  | some L =>
    rw [hL] at h
    simp only [decide_eq_true_eq] at h
    have g := lampsO_greedy hL
    cases hK : lampsO l s' with
    | none =>
      obtain ⟨j, h1, h2⟩ := (lampsO_none_iff hp (by omega)).1 hK
      have := g.small hp hs j (by omega) h1
      omega
    | some K =>
      simp only [decide_eq_true_eq]
      have g' := lampsO_greedy hK
      have := greedy_le hp (by omega) g' (ats := L.map (·.1)) (fun x hx => rises_le g.rises1.1 x hx) (fun m hm => by
        obtain ⟨a, ha, hl⟩ := g.lights hp hs m (by omega) hm
        exact ⟨a, ha, lit_stronger hp hs hss (rises_le g.rises1.1 a ha) hm hl⟩)
      simp only [List.length_map] at this
      omega
/-- a strength of all losses together lights all with one lamp -/
theorem lampN_all {l : List Int} (hp : ∀ d ∈ l, 0 ≤ d) {s : Int} (hs : cm l l.length ≤ s) : lampN l s 1 = true := by
  have h0 := cm_mono hp (i := 0) (j := l.length) (by omega) (Nat.le_refl _)
  have hc0 : cm l 0 = 0 := by simp [cm]
  have hs0 : 0 ≤ s := by omega
  have hd : dn l 0 s = l.length := by
    have := (dn_iff hp hs0 (a := 0) (b := l.length) (by omega) (Nat.le_refl _)).2 (by omega)
    have := dn_hi (l := l) (a := 0) (s := s) (by omega)
    omega
  have hd2 : l.length ≤ dn l l.length s := dn_lo _ _ _
  unfold lampN lampsO
  simp only [lampsF, hd]
  by_cases hl : 0 < l.length
  · rw [if_pos hl, if_neg (by omega), lampsF_end hd2]; simp
  · rw [if_neg hl]; simp
end Go.Proofs.Ytnodeooammplfaa
