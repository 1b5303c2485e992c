/- How many pixels rings have: plain. -/
import Derived.Test.YtolgpigdioanoaaSkyR
import Derived.Test.YtolgpigdioanoaaSkyBa
import Derived.Test.YtolgpigdioanoaaSkyLa
namespace Go.Proofs.Ytolgpigdioanoaa
set_option linter.unusedSimpArgs false
set_option linter.unusedVariables false

/-- a number of digits of 12 bits -/
def digS (g : Nat → Nat) : Nat → Nat
  | 0 => 0
  | m + 1 => digS g m + g m * 4096 ^ m
theorem digS_lt {g : Nat → Nat} : ∀ {m : Nat}, (∀ r, r < m → g r < 4096) → digS g m < 4096 ^ m
  | 0, _ => by simp [digS]
  | m + 1, h => by
    have h1 := digS_lt (m := m) fun r hr => h r (by omega)
    have h2 := h m (by omega)
    have h3 := Nat.mul_le_mul_right (4096 ^ m) (show g m ≤ 4095 by omega)
    simp only [digS, Nat.pow_succ]
    omega
theorem digS_inj {g h : Nat → Nat} : ∀ {m : Nat}, (∀ r, r < m → g r < 4096) → (∀ r, r < m → h r < 4096) → digS g m = digS h m → ∀ r, r < m → g r = h r
  | 0, _, _, _ => fun r hr => absurd hr (Nat.not_lt_zero r)
  | m + 1, hg, hh, he => by
    have g1 := digS_lt (m := m) fun r hr => hg r (by omega)
    have h1 := digS_lt (m := m) fun r hr => hh r (by omega)
    simp only [digS] at he
    have hp : 0 < 4096 ^ m := Nat.pow_pos (by omega)
    have e1 : (digS g m + g m * 4096 ^ m) / 4096 ^ m = g m := by rw [Nat.add_mul_div_right _ _ hp, Nat.div_eq_of_lt g1, Nat.zero_add]
    have e2 : (digS h m + h m * 4096 ^ m) / 4096 ^ m = h m := by rw [Nat.add_mul_div_right _ _ hp, Nat.div_eq_of_lt h1, Nat.zero_add]
    have e3 : g m = h m := by rw [← e1, ← e2, he]
    intro r hr
    rcases Nat.lt_succ_iff_lt_or_eq.1 hr with h2 | rfl
    · rw [e3] at he
      exact digS_inj (fun r hr => hg r (by omega)) (fun r hr => hh r (by omega)) (by omega) r h2
    · exact e3
theorem digS_one (g : Nat → Nat) (a : Nat) : ∀ m, digS (fun r => g r + (decide (a = r)).toNat) m = digS g m + if a < m then 4096 ^ a else 0
  | 0 => by simp [digS]
  | m + 1 => by
    simp only [digS, digS_one g a m]
    rcases Nat.lt_trichotomy a m with h | rfl | h
    · have : ¬ a = m := by omega
      have h2 : a < m + 1 := by omega
      simp [this, h, h2]; omega
    · simp [Nat.add_mul]; omega
    · have : ¬ a = m := by omega
      have h2 : ¬ a < m + 1 := by omega
      have h3 : ¬ a < m := by omega
      simp [this, h2, h3]
def histo (f : Nat → Nat) : Nat → Nat
  | 0 => 0
  | n + 1 => histo f n + 4096 ^ f n
theorem histo_dig {f : Nat → Nat} {m : Nat} : ∀ {n : Nat}, (∀ p, p < n → f p < m) → histo f n = digS (fun r => cntP (fun x => decide (f x = r)) 0 n) m
  | 0, _ => by
    have : ∀ m, digS (fun _ => 0) m = 0 := fun m => by
      induction m with
      | zero => rfl
      | succ m ih => simp [digS, ih]
    simp [histo, cntP, this]
  | n + 1, h => by
    have ih := histo_dig (m := m) (n := n) fun p hp => h p (by omega)
    have hd := digS_one (fun r => cntP (fun x => decide (f x = r)) 0 n) (f n) m
    rw [if_pos (h n (by omega))] at hd
    simp only [histo, cntP, Nat.zero_add]
    rw [ih]
    exact hd.symm
def qN (p : Nat) : Nat := (qR 16 p).toNat
def lenN (r : Nat) : Nat := if r = 0 then 0 else (lenS 16 (r : Int)).toNat
def sumQ (n : Nat) : Nat := (List.range n).foldl (fun a p => a + 4096 ^ qN p) 0
theorem sumQ_histo : ∀ n, sumQ n = histo qN n
  | 0 => rfl
  | n + 1 => by
    have := sumQ_histo n
    unfold sumQ at *
    rw [List.range_succ, List.foldl_append, this]
    rfl
theorem sum_check : sumQ 3072 = digS lenN 64 := by decide +kernel
theorem len_lt {r : Nat} (h : r < 64) : lenN r < 4096 := by
  unfold lenN lenS
  split
  · omega
  · split
    · omega
    · split <;> omega
theorem qN_ring {p : Nat} (h : p < 3072) : (qN p : Int) = pR 4 p ∧ qN p < 64 := by
  obtain ⟨e1, -⟩ := pRP_q (k := 4) p rfl
  have hs : (sd 4).toNat = 16 := by decide
  have hb := ring_bounds (okP_mk (k := 4) (n := p) rfl (by have : px 4 = 3072 := (by decide); omega))
  have h63 : 4 * sd 4 - 1 = 63 := by decide
  rw [hs] at e1
  unfold qN
  rw [← e1]
  omega
theorem ring_count {r : Nat} (hr : r < 64) : cntP (fun x => decide (qN x = r)) 0 3072 = lenN r := by
  have h1 := histo_dig (f := qN) (m := 64) (n := 3072) fun p hp => (qN_ring hp).2
  rw [← sumQ_histo, sum_check] at h1
  exact (digS_inj (fun r hr => len_lt hr) (fun r _ => by have := cntP_le (fun x => decide (qN x = r)) 0 3072; omega) h1 r hr).symm
theorem cnt_none (a : Nat) : ∀ n, cntP (fun _ => false) a n = 0
  | 0 => rfl
  | n + 1 => by simp only [cntP, cnt_none a n]; rfl
theorem band_none (a : Int) : cntP (bandP a (a - 1)) 0 3072 = 0 := by
  rw [cnt_congr (T := fun _ => false) fun x hx => ?_, cnt_none]
  unfold bandP btw
  rw [Bool.and_eq_false_iff, decide_eq_false_iff_not, decide_eq_false_iff_not]
  omega
theorem band_more {a r : Int} (ha : 1 ≤ a) (har : a ≤ r) (hr : r ≤ 63) : cntP (bandP a r) 0 3072 = cntP (bandP a (r - 1)) 0 3072 + (lenS 16 r).toNat := by
  have h1 := cnt_or (bandP a (r - 1)) (fun x => decide (qN x = r.toNat)) 0 3072
  rw [ring_count (by omega)] at h1
  have h2 : cntP (fun x => bandP a (r - 1) x && decide (qN x = r.toNat)) 0 3072 = 0 := by
    rw [cnt_congr (T := fun _ => false) fun x hx => ?_, cnt_none]
    obtain ⟨q1, q2⟩ := qN_ring hx
    unfold bandP btw
    rw [← q1]
    rw [Bool.and_eq_false_iff, Bool.and_eq_false_iff, decide_eq_false_iff_not, decide_eq_false_iff_not, decide_eq_false_iff_not]
    omega
  have h3 : cntP (fun x => bandP a (r - 1) x || decide (qN x = r.toNat)) 0 3072 = cntP (bandP a r) 0 3072 := by
    refine cnt_congr fun x hx => ?_
    obtain ⟨q1, q2⟩ := qN_ring hx
    unfold bandP btw
    rw [← q1, Bool.eq_iff_iff]
    simp only [Bool.or_eq_true, Bool.and_eq_true, decide_eq_true_eq]
    omega
  rw [h2, h3] at h1
  have h4 : lenN r.toNat = (lenS 16 r).toNat := by
    unfold lenN
    rw [if_neg (by omega), show ((r.toNat : Nat) : Int) = r by omega]
  omega
theorem band_all : ringsL 1 63 = skyL ∧ ringsE 1 63 = 0 := by
  have ho : okBand 1 63 = true := by decide
  unfold ringsL ringsE
  rw [ho]
  have hc : ∀ x, x < 3072 → bandP 1 63 x = (fun _ => true : Px) x := fun x hx => by
    obtain ⟨q1, q2⟩ := qN_ring hx
    have hb := ring_bounds (okP_mk (k := 4) (n := x) rfl (by have : px 4 = 3072 := (by decide); omega))
    have h63 : 4 * sd 4 - 1 = 63 := by decide
    unfold bandP
    exact btw_iff.2 (by omega)
  obtain ⟨t1, t2⟩ := told_congr hc
  simp only [if_true]
  rw [t1, t2]
  have hl := sky_len
  unfold skyL at hl ⊢
  unfold toldL toldE
  rw [if_neg (by omega), if_neg (by omega)]
  exact ⟨rfl, rfl⟩
end Go.Proofs.Ytolgpigdioanoaa
