/- Plain law of the urgent plan: it is right, it does all exactly if no stretch is overfull, and no right plan has fewer free minutes. -/
import Derived.Test.YtdafiblnanpiiaaAlU
import Derived.Test.YtdafiblnanpiiaaAlD
namespace Go.Proofs.Ytdafiblnanpiiaa
set_option linter.unusedVariables false

/-! ### sums -/
def sm : Nat → (Nat → Int) → Int
  | 0, _ => 0
  | n + 1, f => sm n f + f n
theorem sm_congr {n : Nat} {f g : Nat → Int} (h : ∀ k, k < n → f k = g k) : sm n f = sm n g := by
  induction n with
  | zero => rfl
  | succ n ih => simp only [sm]; rw [ih (fun k hk => h k (by omega)), h n (by omega)]
theorem sm_le {n : Nat} {f g : Nat → Int} (h : ∀ k, k < n → f k ≤ g k) : sm n f ≤ sm n g := by
  induction n with
  | zero => exact Int.le_refl _
  | succ n ih => simp only [sm]; have := ih (fun k hk => h k (by omega)); have := h n (by omega); omega
theorem sm_lt {n : Nat} {f g : Nat → Int} (h : ∀ k, k < n → f k ≤ g k) (i : Nat) (hi : i < n) (h' : f i < g i) : sm n f < sm n g := by
  induction n with
  | zero => omega
  | succ n ih =>
    simp only [sm]
    by_cases e : i = n
    · subst e
      have := sm_le (n := i) (f := f) (g := g) (fun k hk => h k (by omega)); omega
    · have := ih (fun k hk => h k (by omega)) (by omega); have := h n (by omega); omega
theorem sm_add (n : Nat) (f g : Nat → Int) : sm n (fun k => f k + g k) = sm n f + sm n g := by
  induction n with
  | zero => rfl
  | succ n ih => simp only [sm]; rw [ih]; omega
theorem sm_zero (n : Nat) : sm n (fun _ => 0) = 0 := by
  induction n with
  | zero => rfl
  | succ n ih => simp only [sm]; rw [ih]; rfl
theorem sm_one (n : Nat) : sm n (fun _ => 1) = n := by
  induction n with
  | zero => rfl
  | succ n ih => simp only [sm]; rw [ih]; omega
theorem sm_comm (n m : Nat) (f : Nat → Nat → Int) : sm n (fun i => sm m (fun j => f i j)) = sm m (fun j => sm n (fun i => f i j)) := by
  induction n with
  | zero => simp only [sm]; rw [sm_zero]
  | succ n ih => simp only [sm]; rw [ih, ← sm_add]
def bI (b : Bool) : Int := if b then 1 else 0
theorem bI_bd (b : Bool) : 0 ≤ bI b ∧ bI b ≤ 1 := by cases b <;> simp [bI]
@[simp] theorem bI_true : bI true = 1 := rfl
@[simp] theorem bI_false : bI false = 0 := rfl
/-- one place out of many -/
theorem sm_pick (n : Nat) (x : Int) (f : Nat → Int) : sm n (fun k => if x = (k : Int) then f k else 0) = if 0 ≤ x ∧ x < n then f x.toNat else 0 := by
  induction n with
  | zero => simp only [sm]; rw [if_neg (by omega)]
  | succ n ih =>
    simp only [sm]; rw [ih]
    by_cases h : x = (n : Int)
    · rw [if_neg (by omega), if_pos h, if_pos (by omega), h, Int.toNat_natCast, Int.zero_add]
    · rw [if_neg h, Int.add_zero]
      by_cases h2 : 0 ≤ x ∧ x < (n : Int)
      · rw [if_pos h2, if_pos (by omega)]
      · rw [if_neg h2, if_neg (by omega)]
theorem sm_range (n a b : Nat) (hab : a ≤ b) (hb : b ≤ n) : sm n (fun m => bI (decide (a ≤ m) && decide (m < b))) = (b : Int) - a := by
  induction n with
  | zero => simp only [sm]; omega
  | succ n ih =>
    simp only [sm]
    by_cases h : b ≤ n
    · rw [ih h, show (decide (n < b)) = false by simp; omega]; simp
    · obtain rfl : b = n + 1 := by omega
      have e : sm n (fun m => bI (decide (a ≤ m) && decide (m < n + 1))) = sm n (fun m => bI (decide (a ≤ m) && decide (m < n))) := sm_congr fun k hk => by
        rw [show decide (k < n + 1) = true by simp; omega, show decide (k < n) = true by simp; omega]
      rw [e]
      by_cases h2 : a ≤ n
      · clear ih
        have : ∀ n, a ≤ n → sm n (fun m => bI (decide (a ≤ m) && decide (m < n))) = (n : Int) - a := by
          intro n
          induction n with
          | zero => intro h; simp only [sm]; omega
          | succ n ih =>
            intro h
            simp only [sm]
            have e : sm n (fun m => bI (decide (a ≤ m) && decide (m < n + 1))) = sm n (fun m => bI (decide (a ≤ m) && decide (m < n))) := sm_congr fun k hk => by
              rw [show decide (k < n + 1) = true by simp; omega, show decide (k < n) = true by simp; omega]
            rw [e]
            by_cases h3 : a ≤ n
            · rw [ih h3, show decide (a ≤ n) = true by simpa using h3, show decide (n < n + 1) = true by simp]; simp; omega
            · obtain rfl : a = n + 1 := by omega
              rw [show sm n (fun m => bI (decide (n + 1 ≤ m) && decide (m < n))) = sm n (fun _ => 0) from sm_congr fun k hk => by rw [show decide (n + 1 ≤ k) = false by simp; omega]; rfl, sm_zero]
              rw [show decide (n + 1 ≤ n) = false by simp]; simp
        rw [this n h2, show decide (a ≤ n) = true by simpa using h2, show decide (n < n + 1) = true by simp]; simp; omega
      · obtain rfl : a = n + 1 := by omega
        rw [show sm n (fun m => bI (decide (n + 1 ≤ m) && decide (m < n))) = sm n (fun _ => 0) from sm_congr fun k hk => by rw [show decide (n + 1 ≤ k) = false by simp; omega]; rfl, sm_zero]
        rw [show decide (n + 1 ≤ n) = false by simp]; simp

theorem demT_sm (L : List (Int × Int × Int)) (a b : Int) (n : Nat) : demT L a b n = sm n (inS L a b) := by
  induction n with
  | zero => rfl
  | succ n ih => simp only [demT, sm]; rw [ih]

/-! ### counts -/
theorem ix_snoc_lt {l : List Int} {b : Int} {k : Nat} (h : k < l.length) : ix (l ++ [b]) k = ix l k := by
  simp [ix, List.getElem?_append_left h]
theorem ix_snoc_eq (l : List Int) (b : Int) : ix (l ++ [b]) l.length = b := by simp [ix]
theorem cntI_sm (p : List Int) (i : Nat) : cntI p i = sm p.length (fun m => bI (decide (ix p m = (i : Int)))) := by
  obtain ⟨r, rfl⟩ : ∃ r, p = r.reverse := ⟨p.reverse, by simp⟩
  induction r with
  | nil => rfl
  | cons b r ih =>
    rw [List.reverse_cons, cntI_snoc, ih, show (r.reverse ++ [b]).length = r.reverse.length + 1 by simp]
    simp only [sm]
    rw [ix_snoc_eq, sm_congr (fun k hk => by rw [ix_snoc_lt hk] : ∀ k, k < r.reverse.length → bI (decide (ix (r.reverse ++ [b]) k = (i : Int))) = bI (decide (ix r.reverse k = (i : Int))))]
    congr 1
    by_cases h : b = (i : Int) <;> simp [h]

/-! ### the urgent plan -/
def avB (L : List (Int × Int × Int)) (p : List Int) (m : Int) (i : Nat) : Bool := openB (ta L i) (tb L i) m && decide (cntI p i < tc L i)
theorem bestT_spec (L : List (Int × Int × Int)) (p : List Int) (m : Int) (n : Nat) :
    (bestT L p m n = -1 ∧ ∀ i, i < n → avB L p m i = false) ∨
    (∃ b : Nat, b < n ∧ bestT L p m n = b ∧ avB L p m b = true ∧ ∀ i, i < n → avB L p m i = true → tb L b < tb L i ∨ (tb L b = tb L i ∧ b ≤ i)) := by
  induction n with
  | zero => exact .inl ⟨rfl, fun i hi => by omega⟩
  | succ n ih =>
    have hs : bestT L p m (n + 1) = if avB L p m n && (decide (bestT L p m n = -1) || decide (tb L n < tb L (bestT L p m n).toNat)) then (n : Int) else bestT L p m n := by
      simp only [bestT, avB]
      first | rfl | (congr 1; simp [Bool.and_assoc])
    rcases ih with ⟨h1, h2⟩ | ⟨b, h1, h2, h3, h4⟩
    · cases ha : avB L p m n
      · rw [ha, h1] at hs
        refine .inl ⟨by rw [hs]; simp, fun i hi => ?_⟩
        rcases Nat.lt_succ_iff_lt_or_eq.1 hi with h | rfl
        · exact h2 i h
        · exact ha
      · rw [ha, h1] at hs
        refine .inr ⟨n, by omega, by rw [hs]; simp, ha, fun i hi hai => ?_⟩
        rcases Nat.lt_succ_iff_lt_or_eq.1 hi with h | rfl
        · rw [h2 i h] at hai; cases hai
        · exact .inr ⟨rfl, Nat.le_refl _⟩
    · have hb1 : ¬ ((b : Int) = -1) := by omega
      by_cases ha : (avB L p m n && decide (tb L n < tb L b)) = true
      · rw [h2] at hs
        rw [Bool.and_eq_true, decide_eq_true_eq] at ha
        refine .inr ⟨n, by omega, by rw [hs]; simp [ha.1, ha.2], ha.1, fun i hi hai => ?_⟩
        rcases Nat.lt_succ_iff_lt_or_eq.1 hi with h | rfl
        · have := h4 i h hai; omega
        · exact .inr ⟨rfl, Nat.le_refl _⟩
      · have hn : bestT L p m (n + 1) = b := by
          rw [hs, h2, if_neg]
          intro hc
          rw [Bool.and_eq_true, Bool.or_eq_true] at hc
          rcases hc.2 with hc2 | hc2
          · exact hb1 (by rw [decide_eq_true_eq] at hc2; omega)
          · exact ha (by rw [Bool.and_eq_true]; exact ⟨hc.1, by simpa using hc2⟩)
        refine .inr ⟨b, by omega, hn, h3, fun i hi hai => ?_⟩
        rcases Nat.lt_succ_iff_lt_or_eq.1 hi with h | rfl
        · exact h4 i h hai
        · have : ¬ tb L i < tb L b := fun hc => ha (by rw [Bool.and_eq_true]; exact ⟨hai, by simpa using hc⟩)
          omega

theorem urgP_ix (L : List (Int × Int × Int)) {m N : Nat} (h : m < N) : ix (urgP L N) m = bestT L (urgP L m) m L.length := by
  induction N with
  | zero => omega
  | succ N ih =>
    simp only [urgP]
    by_cases e : m = N
    · subst e
      have := ix_snoc_eq (urgP L m) (bestT L (urgP L m) m L.length)
      rw [urgP_len] at this; exact this
    · rw [ix_snoc_lt (by rw [urgP_len]; omega)]; exact ih (by omega)
theorem urgP_cnt_succ (L : List (Int × Int × Int)) (m i : Nat) : cntI (urgP L (m + 1)) i = cntI (urgP L m) i + (if bestT L (urgP L m) m L.length = (i : Int) then 1 else 0) := by
  simp only [urgP]; exact cntI_snoc _ _ _
theorem urgP_cnt_mono (L : List (Int × Int × Int)) {m N : Nat} (h : m ≤ N) (i : Nat) : cntI (urgP L m) i ≤ cntI (urgP L N) i := by
  induction N with
  | zero => obtain rfl : m = 0 := by omega
            exact Int.le_refl _
  | succ N ih =>
    by_cases e : m = N + 1
    · subst e; exact Int.le_refl _
    · have h1 := ih (by omega)
      have h2 := urgP_cnt_succ L N i
      split at h2 <;> omega
theorem urgP_cnt_le (L : List (Int × Int × Int)) (hok : okT L) (m i : Nat) (hi : i < L.length) : cntI (urgP L m) i ≤ tc L i := by
  induction m with
  | zero => have := (hok.2 i hi).2.2.2; rw [show cntI (urgP L 0) i = 0 from rfl]; omega
  | succ m ih =>
    rw [urgP_cnt_succ]
    rcases bestT_spec L (urgP L m) m L.length with ⟨h1, _⟩ | ⟨b, _, h2, h3, _⟩
    · rw [h1, if_neg (by omega)]; omega
    · rw [h2]
      by_cases e : b = i
      · subst e
        simp only [avB, Bool.and_eq_true, decide_eq_true_eq] at h3
        rw [if_pos rfl]; omega
      · rw [if_neg (by omega)]; omega
/-- while a task can be worked on, one that is as urgent is worked on -/
theorem urg_busy (L : List (Int × Int × Int)) {m i : Nat} (hm : m < 100) (hi : i < L.length) (h1 : ta L i ≤ m) (h2 : (m : Int) < tb L i) (h3 : cntI (urgP L m) i < tc L i) :
    ∃ b : Nat, b < L.length ∧ ix (urg L) m = b ∧ (tb L b < tb L i ∨ (tb L b = tb L i ∧ b ≤ i)) := by
  have hav : avB L (urgP L m) m i = true := by simp only [avB, Bool.and_eq_true, decide_eq_true_eq]; exact ⟨openB_iff.2 ⟨h1, h2⟩, h3⟩
  rcases bestT_spec L (urgP L m) m L.length with ⟨_, h⟩ | ⟨b, hb, h4, _, h5⟩
  · rw [h i hi] at hav; cases hav
  · exact ⟨b, hb, by unfold urg; rw [urgP_ix L hm]; exact h4, h5 i hi hav⟩
/-- what is worked on -/
theorem urg_works (L : List (Int × Int × Int)) {m k : Nat} (hm : m < 100) (h : ix (urg L) m = k) :
    k < L.length ∧ ta L k ≤ m ∧ (m : Int) < tb L k ∧ ∀ m', m' ≤ m → cntI (urgP L m') k < tc L k := by
  unfold urg at h; rw [urgP_ix L hm] at h
  rcases bestT_spec L (urgP L m) m L.length with ⟨h1, _⟩ | ⟨b, hb, h4, h5, _⟩
  · rw [h1] at h; omega
  · rw [h4] at h
    obtain rfl : b = k := by omega
    simp only [avB, Bool.and_eq_true, decide_eq_true_eq] at h5
    have := openB_iff.1 h5.1
    exact ⟨hb, this.1, this.2, fun m' hm' => by have := urgP_cnt_mono L hm' b; omega⟩
theorem urg_form (L : List (Int × Int × Int)) {m : Nat} (hm : m < 100) : ix (urg L) m = -1 ∨ ∃ k : Nat, k < L.length ∧ ix (urg L) m = k := by
  unfold urg; rw [urgP_ix L hm]
  rcases bestT_spec L (urgP L m) m L.length with ⟨h1, _⟩ | ⟨b, hb, h4, _, _⟩
  · exact .inl h1
  · exact .inr ⟨b, hb, h4⟩

/-! ### right plans -/
/-- each minute is its task's, and none has more than its work -/
def Right (L : List (Int × Int × Int)) (p : List Int) : Prop :=
  (∀ m, m < 100 → ix p m = -1 ∨ ∃ k : Nat, k < L.length ∧ ix p m = k ∧ ta L k ≤ m ∧ (m : Int) < tb L k) ∧ ∀ i, i < L.length → cntI p i ≤ tc L i
theorem urg_right (L : List (Int × Int × Int)) (hok : okT L) : Right L (urg L) := by
  refine ⟨fun m hm => ?_, fun i hi => urgP_cnt_le L hok 100 i hi⟩
  rcases urg_form L hm with h | ⟨k, hk, h⟩
  · exact .inl h
  · have := urg_works L hm h
    exact .inr ⟨k, hk, h, this.2.1, this.2.2.1⟩

/-- the demand of a stretch is at most what a right plan that does all has there -/
theorem dem_le_of_all (L : List (Int × Int × Int)) (p : List Int) (hp : p.length = 100) (hr : Right L p) (hall : ∀ i, i < L.length → cntI p i = tc L i) (a b : Nat) (hab : a ≤ b) (hb : b ≤ 100) : dem L a b ≤ (b : Int) - a := by
  unfold dem
  rw [demT_sm, ← sm_range 100 a b hab hb]
  have e1 : sm L.length (inS L a b) ≤ sm L.length (fun i => sm 100 (fun m => if ix p m = (i : Int) then bI (decide (a ≤ m) && decide (m < b)) else 0)) := by
    refine sm_le fun i hi => ?_
    unfold inS
    have hc := hall i hi
    rw [cntI_sm, hp] at hc
    by_cases h : (a : Int) ≤ ta L i ∧ tb L i ≤ b
    · rw [if_pos h, ← hc]
      refine sm_le fun m hm => ?_
      by_cases hx : ix p m = (i : Int)
      · rw [if_pos hx]
        rcases hr.1 m hm with h0 | ⟨k, _, hk, h1, h2⟩
        · omega
        · obtain rfl : k = i := by omega
          rw [show decide (a ≤ m) = true by simp; omega, show decide (m < b) = true by simp; omega]
          exact (bI_bd _).2
      · rw [if_neg hx]; simp [hx]
    · rw [if_neg h]
      have := sm_le (n := 100) (f := fun _ => 0) (g := fun m => if ix p m = (i : Int) then bI (decide (a ≤ m) && decide (m < b)) else 0) (fun m _ => by split <;> first | exact (bI_bd _).1 | exact Int.le_refl _)
      rw [sm_zero] at this; exact this
  refine Int.le_trans e1 ?_
  rw [sm_comm]
  refine sm_le fun m hm => ?_
  rw [sm_pick L.length (ix p m) (fun _ => bI (decide (a ≤ m) && decide (m < b)))]
  split
  · exact Int.le_refl _
  · exact (bI_bd _).1

/-- a task that the urgent plan does not do lies in a stretch that is overfull -/
theorem over_of_undone (L : List (Int × Int × Int)) (hok : okT L) (i : Nat) (hi : i < L.length) (hu : cntI (urg L) i < tc L i) : ∃ a b : Nat, a < b ∧ b ≤ 100 ∧ (b : Int) - a < dem L a b := by
  have hiv := hok.2 i hi
  obtain ⟨d, hd⟩ : ∃ d : Nat, tb L i = d := ⟨(tb L i).toNat, by omega⟩
  obtain ⟨c, hc⟩ : ∃ c : Nat, ta L i = c := ⟨(ta L i).toNat, by omega⟩
  have hgood : ∀ k m' : Nat, k < L.length → tb L k ≤ d → (∀ m, m ≤ m' → cntI (urgP L m) k < tc L k) → ta L k ≤ m' → (m' : Int) < tb L k → ∃ b : Nat, b < L.length ∧ ix (urg L) m' = b ∧ tb L b ≤ d := fun k m' hk hkd hun h1 h2 => by
    obtain ⟨b, hb, h4, h5⟩ := urg_busy L (by have := hok.2 k hk; omega) hk h1 h2 (hun m' (Nat.le_refl _))
    exact ⟨b, hb, h4, by omega⟩
  let good : Nat → Prop := fun a => ∀ m, a ≤ m → m < d → ∃ b : Nat, b < L.length ∧ ix (urg L) m = b ∧ tb L b ≤ d
  have hc0 : good c := fun m h1 h2 => hgood i m hi (by omega) (fun m' hm' => by
    have := urgP_cnt_mono L (show m' ≤ 100 by omega) i
    unfold urg at hu; omega) (by omega) (by omega)
  obtain ⟨a, ha, hmin⟩ : ∃ a, good a ∧ ∀ a', a' < a → ¬ good a' := by
    have : ∀ c, good c → ∃ a, good a ∧ ∀ a', a' < a → ¬ good a' := fun c => by
      induction c using Nat.strongRecOn with
      | _ c ih =>
        intro hc
        by_cases h : ∃ a', a' < c ∧ good a'
        · obtain ⟨a', h1, h2⟩ := h
          exact ih a' h1 h2
        · exact ⟨c, hc, fun a' h1 h2 => h ⟨a', h1, h2⟩⟩
    exact this c hc0
  have hac : a ≤ c := by
    rcases Nat.lt_or_ge c a with h | h
    · exact absurd hc0 (hmin c h)
    · exact h
  have hins : ∀ k m : Nat, a ≤ m → m < d → ix (urg L) m = k → (a : Int) ≤ ta L k ∧ tb L k ≤ d := fun k m h1 h2 h3 => by
    obtain ⟨b, hb, h4, h5⟩ := ha m h1 h2
    obtain rfl : b = k := by omega
    refine ⟨?_, h5⟩
    obtain ⟨hk, w1, w2, w3⟩ := urg_works L (by omega) h3
    have hkv := hok.2 b hk
    rcases Nat.lt_or_ge (ta L b).toNat a with hlt | hge
    · refine absurd (fun m' g1 g2 => ?_ : good (a - 1)) (hmin (a - 1) (by omega))
      by_cases e : m' = a - 1
      · subst e
        exact hgood b (a - 1) hk h5 (fun m hm => w3 m (by omega)) (by omega) (by omega)
      · exact ha m' (by omega) g2
    · omega
  refine ⟨a, d, by omega, by omega, ?_⟩
  unfold dem
  rw [demT_sm, ← sm_range 100 a d (by omega) (by omega)]
  have e1 : sm 100 (fun m => bI (decide (a ≤ m) && decide (m < d))) = sm L.length (fun k => sm 100 (fun m => if ix (urg L) m = (k : Int) then bI (decide (a ≤ m) && decide (m < d)) else 0)) := by
    rw [sm_comm]
    refine sm_congr fun m hm => ?_
    rw [sm_pick L.length (ix (urg L) m) (fun _ => bI (decide (a ≤ m) && decide (m < d)))]
    by_cases h : a ≤ m ∧ m < d
    · obtain ⟨b, hb, h4, _⟩ := ha m h.1 h.2
      rw [if_pos (by omega)]
    · have : (decide (a ≤ m) && decide (m < d)) = false := by
        rw [Bool.eq_false_iff]; intro hc; simp at hc; exact h hc
      rw [this]; split <;> rfl
  rw [e1]
  have hle : ∀ k, k < L.length → sm 100 (fun m => if ix (urg L) m = (k : Int) then bI (decide (a ≤ m) && decide (m < d)) else 0) ≤ (if (a : Int) ≤ ta L k ∧ tb L k ≤ d then cntI (urg L) k else 0) := fun k hk => by
    by_cases h : (a : Int) ≤ ta L k ∧ tb L k ≤ d
    · rw [if_pos h, cntI_sm, urg_len]
      refine sm_le fun m hm => ?_
      by_cases hx : ix (urg L) m = (k : Int)
      · rw [if_pos hx]; simp only [hx]; have := (bI_bd (decide (a ≤ m) && decide (m < d))).2; simpa using this
      · rw [if_neg hx]; exact (bI_bd _).1
    · rw [if_neg h]
      refine Int.le_trans (sm_le (g := fun _ => 0) fun m hm => ?_) (Int.le_of_eq (sm_zero _))
      by_cases hx : ix (urg L) m = (k : Int)
      · rw [if_pos hx]
        by_cases h2 : a ≤ m ∧ m < d
        · exact absurd (hins k m h2.1 h2.2 hx) h
        · have : (decide (a ≤ m) && decide (m < d)) = false := by
            rw [Bool.eq_false_iff]; intro hc; simp at hc; exact h2 hc
          rw [this]; exact Int.le_refl _
      · rw [if_neg hx]; exact Int.le_refl _
  refine sm_lt (fun k hk => Int.le_trans (hle k hk) ?_) i hi (Int.lt_of_le_of_lt (hle i hi) ?_)
  · unfold inS
    have := urgP_cnt_le L hok 100 k hk
    split
    · exact this
    · exact Int.le_refl _
  · unfold inS
    rw [if_pos (by omega), if_pos (by omega)]
    exact hu

/-- no right plan works in more minutes than the urgent one -/
theorem urg_most (L : List (Int × Int × Int)) (hok : okT L) (p : List Int) (hp : p.length = 100) (hr : Right L p) :
    sm 100 (fun m => bI (decide (0 ≤ ix p m))) ≤ sm 100 (fun m => bI (decide (0 ≤ ix (urg L) m))) := by
  classical
  let good : Nat → Int → Prop := fun m d => ∃ b : Nat, b < L.length ∧ ix (urg L) m = b ∧ tb L b ≤ d
  let X : Nat → Prop := fun m => ∃ i, i < L.length ∧ cntI (urg L) i < tc L i ∧ (m : Int) < tb L i ∧ ∀ m' : Nat, m ≤ m' → (m' : Int) < tb L i → good m' (tb L i)
  let ins : Nat → Prop := fun k => ∃ i, i < L.length ∧ cntI (urg L) i < tc L i ∧ tb L k ≤ tb L i ∧ ∀ m' : Nat, ta L k ≤ m' → (m' : Int) < tb L i → good m' (tb L i)
  have hinsX : ∀ k m : Nat, ins k → ta L k ≤ m → (m : Int) < tb L k → X m := fun k m ⟨i, h1, h2, h3, h4⟩ g1 g2 => ⟨i, h1, h2, by omega, fun m' q1 q2 => h4 m' (by omega) q2⟩
  have hund : ∀ i, i < L.length → cntI (urg L) i < tc L i → ins i := fun i hi hu => ⟨i, hi, hu, Int.le_refl _, fun m' q1 q2 => by
    obtain ⟨b, hb, h4, h5⟩ := urg_busy L (by have := hok.2 i hi; omega) hi q1 q2 (by
      have := urgP_cnt_mono L (show m' ≤ 100 by have := hok.2 i hi; omega) i
      unfold urg at hu; omega)
    exact ⟨b, hb, h4, by omega⟩⟩
  have hXins : ∀ m k : Nat, m < 100 → X m → ix (urg L) m = k → ins k := fun m k hm ⟨i, h1, h2, h3, h4⟩ hk => by
    obtain ⟨hkl, w1, w2, w3⟩ := urg_works L hm hk
    obtain ⟨b, hb, g1, g2⟩ := h4 m (Nat.le_refl _) h3
    obtain rfl : b = k := by omega
    refine ⟨i, h1, h2, g2, fun m' q1 q2 => ?_⟩
    rcases Nat.lt_or_ge m' m with hlt | hge
    · obtain ⟨b', hb', h6, h7⟩ := urg_busy L (by omega) hkl q1 (by omega) (w3 m' (by omega))
      exact ⟨b', hb', h6, by omega⟩
    · exact h4 m' hge q2
  have hXbusy : ∀ m, m < 100 → X m → 0 ≤ ix (urg L) m := fun m hm ⟨i, h1, h2, h3, h4⟩ => by
    obtain ⟨b, hb, g1, g2⟩ := h4 m (Nat.le_refl _) h3
    omega
  let W : Int := sm L.length (fun k => if ins k then 0 else tc L k)
  let NX : Int := sm 100 (fun m => if X m then 1 else 0)
  have h1 : sm 100 (fun m => bI (decide (0 ≤ ix p m))) ≤ NX + W := by
    have e1 : sm 100 (fun m => bI (decide (0 ≤ ix p m))) ≤ sm 100 (fun m => (if X m then 1 else 0) + sm L.length (fun k => if ix p m = (k : Int) then (if ins k then 0 else 1) else 0)) := by
      refine sm_le fun m hm => ?_
      rw [sm_pick L.length (ix p m) (fun k => if ins k then 0 else 1)]
      rcases hr.1 m hm with h0 | ⟨k, hk, hx, q1, q2⟩
      · rw [h0]; simp; split <;> omega
      · rw [hx]
        by_cases hX : X m
        · rw [if_pos hX]; have := (bI_bd (decide (0 ≤ (k : Int)))).2; split <;> (try split) <;> omega
        · rw [if_neg hX, if_pos (by omega), Int.toNat_natCast, if_neg (fun hi => hX (hinsX k m hi q1 q2))]
          have := (bI_bd (decide (0 ≤ (k : Int)))).2; omega
    refine Int.le_trans e1 ?_
    rw [sm_add, sm_comm]
    refine Int.add_le_add_left (sm_le fun k hk => ?_) _
    by_cases hi : ins k
    · simp only [if_pos hi]
      rw [sm_congr (g := fun _ => 0) (fun m _ => by split <;> rfl), sm_zero]; exact Int.le_refl _
    · simp only [if_neg hi]
      have := hr.2 k hk
      rw [cntI_sm, hp] at this
      refine Int.le_trans (sm_le fun m hm => ?_) this
      by_cases hx : ix p m = (k : Int)
      · rw [if_pos hx]; simp [hx]
      · rw [if_neg hx]; exact (bI_bd _).1
  have h2 : NX + W ≤ sm 100 (fun m => bI (decide (0 ≤ ix (urg L) m))) := by
    have e1 : sm 100 (fun m => (if X m then 1 else 0) + sm L.length (fun k => if ix (urg L) m = (k : Int) then (if ins k then 0 else 1) else 0)) ≤ sm 100 (fun m => bI (decide (0 ≤ ix (urg L) m))) := by
      refine sm_le fun m hm => ?_
      rw [sm_pick L.length (ix (urg L) m) (fun k => if ins k then 0 else 1)]
      rcases urg_form L hm with h0 | ⟨k, hk, hx⟩
      · rw [h0]
        rw [if_neg (fun hX => by have := hXbusy m hm hX; omega), if_neg (by omega)]
        exact (bI_bd _).1
      · rw [hx, if_pos (show 0 ≤ (k : Int) ∧ (k : Int) < (L.length : Int) by omega), Int.toNat_natCast]
        rw [show decide (0 ≤ (k : Int)) = true by simp, bI_true]
        by_cases hX : X m
        · rw [if_pos hX, if_pos (hXins m k hm hX hx)]; omega
        · rw [if_neg hX]; split <;> omega
    refine Int.le_trans ?_ e1
    rw [sm_add, sm_comm]
    refine Int.add_le_add_left (sm_le fun k hk => ?_) _
    by_cases hi : ins k
    · rw [if_pos hi]
      have := sm_le (n := 100) (f := fun _ => 0) (g := fun m => if ix (urg L) m = (k : Int) then (if ins k then 0 else 1) else 0) (fun m _ => by split <;> (try split) <;> omega)
      rw [sm_zero] at this; exact this
    · rw [if_neg hi]
      have hd : cntI (urg L) k = tc L k := by
        have := urgP_cnt_le L hok 100 k hk
        rcases (show cntI (urg L) k < tc L k ∨ tc L k ≤ cntI (urg L) k by omega) with h | h
        · exact absurd (hund k hk h) hi
        · unfold urg at h ⊢; omega
      rw [← hd, cntI_sm, urg_len]
      refine sm_le fun m hm => ?_
      by_cases hx : ix (urg L) m = (k : Int)
      · rw [if_pos hx, if_neg hi]; exact (bI_bd _).2
      · rw [if_neg hx]; simp [hx]
  omega

/-! ### all is done exactly if no stretch is overfull -/
def doesB (L : List (Int × Int × Int)) (p : List Int) : Bool := (List.range L.length).all fun i => decide (cntI p i = tc L i)
theorem doesB_iff {L : List (Int × Int × Int)} {p : List Int} : doesB L p = true ↔ ∀ i, i < L.length → cntI p i = tc L i := by simp [doesB]
theorem slkF_le (L : List (Int × Int × Int)) (l : List (Int × Int)) : slkF L l ≤ 100 ∧ (∀ x ∈ l, slkF L l ≤ x.2 - x.1 - dem L x.1 x.2) ∧ (slkF L l = 100 ∨ ∃ x ∈ l, slkF L l = x.2 - x.1 - dem L x.1 x.2) := by
  obtain ⟨r, rfl⟩ : ∃ r, l = r.reverse := ⟨l.reverse, by simp⟩
  induction r with
  | nil => simp [slkF]
  | cons y r ih =>
    rw [List.reverse_cons, slkF_snoc]
    obtain ⟨i1, i2, i3⟩ := ih
    refine ⟨by omega, fun x hx => ?_, ?_⟩
    · rw [List.mem_append, List.mem_singleton] at hx
      rcases hx with hx | rfl
      · have := i2 x hx; omega
      · omega
    · rcases Int.le_total (slkF L r.reverse) (y.2 - y.1 - dem L y.1 y.2) with h | h
      · rw [Int.min_eq_left h]
        rcases i3 with i3 | ⟨x, hx, i3⟩
        · exact .inl i3
        · exact .inr ⟨x, List.mem_append_left _ hx, i3⟩
      · rw [Int.min_eq_right h]
        exact .inr ⟨y, by simp, rfl⟩
theorem slk_le (L : List (Int × Int × Int)) {a b : Int} (h0 : 0 ≤ a) (h1 : a < b) (h2 : b ≤ 100) : slk L ≤ b - a - dem L a b := (slkF_le L strAll).2.1 (a, b) (mem_strAll.2 ⟨h0, h1, h2⟩)
theorem slk_cases (L : List (Int × Int × Int)) : slk L = 100 ∨ ∃ a b : Int, 0 ≤ a ∧ a < b ∧ b ≤ 100 ∧ slk L = b - a - dem L a b := by
  rcases (slkF_le L strAll).2.2 with h | ⟨x, hx, h⟩
  · exact .inl h
  · have := mem_strAll.1 hx
    exact .inr ⟨x.1, x.2, this.1, this.2.1, this.2.2, h⟩
theorem slk_pos_of_all (L : List (Int × Int × Int)) (p : List Int) (hp : p.length = 100) (hr : Right L p) (hall : ∀ i, i < L.length → cntI p i = tc L i) : 0 ≤ slk L := by
  rcases slk_cases L with h | ⟨a, b, h0, h1, h2, h⟩
  · omega
  · have := dem_le_of_all L p hp hr hall a.toNat b.toNat (by omega) (by omega)
    rw [show ((a.toNat : Nat) : Int) = a by omega, show ((b.toNat : Nat) : Int) = b by omega] at this
    omega
theorem does_iff_slk (L : List (Int × Int × Int)) (hok : okT L) : doesB L (urg L) = decide (0 ≤ slk L) := by
  rw [Bool.eq_iff_iff, decide_eq_true_eq, doesB_iff]
  refine ⟨slk_pos_of_all L (urg L) (urg_len L) (urg_right L hok), fun h i hi => ?_⟩
  have h1 := urgP_cnt_le L hok 100 i hi
  rcases (show cntI (urg L) i < tc L i ∨ tc L i ≤ cntI (urg L) i by omega) with hlt | hge
  · obtain ⟨a, b, q1, q2, q3⟩ := over_of_undone L hok i hi hlt
    have := slk_le L (a := a) (b := b) (by omega) (by omega) (by omega)
    omega
  · unfold urg at hge ⊢; omega
end Go.Proofs.Ytdafiblnanpiiaa
