/- Plain law of rings: what the checks say of every pixel; the pixels on a ring; the pixel of a ring number. -/
import Derived.Test.YtgbpmleipdecgaaSkyQ
namespace Go.Proofs.Ytgbpmleipdecgaa
set_option linter.unusedSimpArgs false
set_option linter.unusedVariables false
open Go.RowKit

theorem okP_nat {k p : Int} (h : okP k p = true) : ∃ n : Nat, p = n ∧ n < (px k).toNat := by
  have hp : 0 ≤ p ∧ p ≤ px k - 1 := by unfold okP at h; exact btw_iff.1 (Bool.and_eq_true_iff.1 h).2
  exact ⟨p.toNat, by omega, by omega⟩
theorem okP_mk {k : Int} {n : Nat} (hk : btw 0 k 4 = true) (h : n < (px k).toNat) : okP k n = true := by
  unfold okP; rw [hk, btw_iff.2 ⟨by omega, by omega⟩]; rfl
theorem sd_nat {k : Int} (hk : btw 0 k 4 = true) : sd k = ((sd k).toNat : Int) ∧ 0 < (sd k).toNat * (sd k).toNat ∧ (sd k).toNat * (sd k).toNat ≤ 256 ∧ (px k).toNat = 12 * (sd k).toNat * (sd k).toNat := by
  rcases ord_cases hk with rfl | rfl | rfl | rfl | rfl <;> decide
theorem pRP_q {k : Int} (p : Nat) (hk : btw 0 k 4 = true) : pR k p = qR (sd k).toNat p ∧ pP k p = qP (sd k).toNat p := by
  obtain ⟨h1, h2, h3, h4⟩ := sd_nat hk
  unfold pR pP qR qP fX fY fF fN
  generalize (sd k).toNat = s at *
  rw [h1]
  have e1 : (p : Int) % ((s : Int) * s) = ((p % (s * s) : Nat) : Int) := by push_cast; rfl
  have e2 : (p : Int) / ((s : Int) * s) = ((p / (s * s) : Nat) : Int) := by push_cast; rfl
  have g := gat_gatN ⟨p % (s * s), Nat.lt_of_lt_of_le (Nat.mod_lt _ h2) h3⟩
  simp only at g
  rw [e1, e2, g.1, g.2]
  exact ⟨rfl, rfl⟩
theorem chk_all {k : Int} (hk : btw 0 k 4 = true) : chk k.toNat (sd k).toNat = true := by
  rcases ord_cases hk with rfl | rfl | rfl | rfl | rfl
  · exact chk0
  · exact chk1
  · exact chk2
  · exact chk3
  · exact chk4
theorem chq_all {k : Int} (hk : btw 0 k 4 = true) : chq k.toNat (sd k).toNat = true := by
  rcases ord_cases hk with rfl | rfl | rfl | rfl | rfl
  · exact chq0
  · exact chq1
  · exact chq2
  · exact chq3
  · exact chq4
theorem place_facts {k p : Int} (h : okP k p = true) : (1 ≤ pP k p ∧ pP k p ≤ lenS (sd k) (pR k p)) ∧ pix k (pR k p) (pP k p) = p := by
  have hk := okP_k h
  have hkk := btw_iff.1 hk
  obtain ⟨n, rfl, hn⟩ := okP_nat h
  obtain ⟨h1, h2, h3, h4⟩ := sd_nat hk
  have hc := List.all_eq_true.1 (chk_all hk) n (by simp; omega)
  simp only [one, Bool.and_eq_true, decide_eq_true_eq] at hc
  obtain ⟨e1, e2⟩ := pRP_q n hk
  rw [← e1, ← e2, ← h1, show ((k.toNat : Nat) : Int) = k by omega] at hc
  exact ⟨hc.1, hc.2⟩
theorem onto {k R P : Int} (hk : btw 0 k 4 = true) (hR : 1 ≤ R ∧ R ≤ 4 * sd k - 1) (hP : 1 ≤ P ∧ P ≤ lenS (sd k) R) : okP k (pix k R P) = true ∧ pR k (pix k R P) = R ∧ pP k (pix k R P) = P := by
  have hkk := btw_iff.1 hk
  obtain ⟨h1, h2, h3, h4⟩ := sd_nat hk
  have hc := List.all_eq_true.1 (List.all_eq_true.1 (chq_all hk) (R.toNat - 1) (by simp; omega)) (P.toNat - 1) (by
    simp only [List.mem_range]
    rw [← h1, show (((R.toNat - 1 + 1 : Nat)) : Int) = R by omega]
    omega)
  simp only [two, Bool.and_eq_true, decide_eq_true_eq] at hc
  rw [show (((R.toNat - 1 + 1 : Nat)) : Int) = R by omega, show (((P.toNat - 1 + 1 : Nat)) : Int) = P by omega, show ((k.toNat : Nat) : Int) = k by omega] at hc
  have hx : ∃ m : Nat, pix k R P = m := ⟨_, rfl⟩
  obtain ⟨m, hm⟩ := hx
  rw [hm] at hc ⊢
  simp only [Int.toNat_natCast] at hc
  obtain ⟨e1, e2⟩ := pRP_q m hk
  have hpx : px k = 12 * sd k * sd k := rfl
  refine ⟨okP_mk hk (by rw [h4]; exact_mod_cast hc.1.1), ?_, ?_⟩
  · rw [e1]; exact hc.1.2
  · rw [e2]; exact hc.2
theorem ring_bounds {k p : Int} (h : okP k p = true) : 1 ≤ pR k p ∧ pR k p ≤ 4 * sd k - 1 := (rg_bounds h).1
theorem rp_inj {k p q : Int} (hp : okP k p = true) (hq : okP k q = true) (h1 : pR k p = pR k q) (h2 : pP k p = pP k q) : p = q := by
  rw [← (place_facts hp).2, ← (place_facts hq).2, h1, h2]

/-! ### the list of a ring -/
def onF (k r : Int) (n : Nat) : List Int := (List.range (lenS (sd k) r).toNat).map fun (i : Nat) => if pix k r ((i : Int) + 1) < n then pix k r ((i : Int) + 1) else 0
def onL (k r : Int) : List Int := (List.range (lenS (sd k) r).toNat).map fun (i : Nat) => pix k r ((i : Int) + 1)
theorem onF_len (k r : Int) (n : Nat) : (onF k r n).length = (lenS (sd k) r).toNat := by simp [onF]
theorem onL_len (k r : Int) : (onL k r).length = (lenS (sd k) r).toNat := by simp [onL]
theorem pix_nn (k r p : Int) : 0 ≤ pix k r p := by unfold pix; omega
theorem onF_zero (k r : Int) : onF k r 0 = List.replicate (lenS (sd k) r).toNat 0 := by
  apply List.ext_getElem
  · simp [onF]
  · intro i h1 h2
    simp only [onF, List.getElem_map, List.getElem_range, List.getElem_replicate]
    have := pix_nn k r ((i : Int) + 1)
    rw [if_neg (by omega)]
theorem onF_hit {k r : Int} {n : Nat} (h : okP k n = true) (hr : pR k n = r) : onF k r (n + 1) = (onF k r n).set (pP k n - 1).toNat n := by
  have hf := place_facts h
  have hrb := ring_bounds h
  rw [hr] at hf hrb
  apply List.ext_getElem
  · simp [onF]
  · intro i h1 h2
    have hi : i < (lenS (sd k) r).toNat := by rw [onF_len] at h1; exact h1
    have ho := onto (okP_k h) hrb (P := (i : Int) + 1) (by omega)
    rw [List.getElem_set]
    simp only [onF, List.getElem_map, List.getElem_range]
    by_cases e : (pP k n - 1).toNat = i
    · rw [if_pos e]
      have : pix k r ((i : Int) + 1) = n := by rw [← hf.2]; congr 1; omega
      rw [this, if_pos (by omega)]
    · rw [if_neg e]
      have hne : pix k r ((i : Int) + 1) ≠ n := by
        intro he
        have := ho.2.2
        rw [he] at this
        omega
      by_cases hlt : pix k r ((i : Int) + 1) < n
      · rw [if_pos (by omega), if_pos hlt]
      · rw [if_neg (by omega), if_neg hlt]
theorem onF_miss {k r : Int} {n : Nat} (hk : btw 0 k 4 = true) (hrb : 1 ≤ r ∧ r ≤ 4 * sd k - 1) (hr : pR k n ≠ r) : onF k r (n + 1) = onF k r n := by
  apply List.ext_getElem
  · simp [onF]
  · intro i h1 h2
    have hi : i < (lenS (sd k) r).toNat := by rw [onF_len] at h1; exact h1
    have ho := onto hk hrb (P := (i : Int) + 1) (by omega)
    simp only [onF, List.getElem_map, List.getElem_range]
    have hne : pix k r ((i : Int) + 1) ≠ n := by
      intro he
      have := ho.2.1
      rw [he] at this
      exact hr this
    by_cases hlt : pix k r ((i : Int) + 1) < n
    · rw [if_pos (by omega), if_pos hlt]
    · rw [if_neg (by omega), if_neg hlt]
theorem onF_all {k r : Int} (hk : btw 0 k 4 = true) (hrb : 1 ≤ r ∧ r ≤ 4 * sd k - 1) : onF k r (px k).toNat = onL k r := by
  apply List.ext_getElem
  · simp [onF, onL]
  · intro i h1 h2
    have hi : i < (lenS (sd k) r).toNat := by rw [onF_len] at h1; exact h1
    have ho := onto hk hrb (P := (i : Int) + 1) (by omega)
    obtain ⟨m, hm, hm2⟩ := okP_nat ho.1
    simp only [onF, onL, List.getElem_map, List.getElem_range]
    rw [if_pos (by omega)]
theorem ix_onL {k r : Int} {i : Nat} (hi : i < (lenS (sd k) r).toNat) : ix (onL k r) i = pix k r ((i : Int) + 1) := by
  simp [ix, onL, hi]

/-! ### ring numbers -/
theorem rgN_eq (k p : Int) : rgN k p = befF (sd k) (pR k p - 1).toNat + pP k p - 1 := rfl
theorem befF_mono {s : Int} (hs : 1 ≤ s ∧ s ≤ 16) (a b : Nat) (hab : a ≤ b) (hb : (b : Int) ≤ 4 * s - 1) : befF s a ≤ befF s b := by
  induction b with
  | zero => obtain rfl : a = 0 := by omega
            exact Int.le_refl _
  | succ b ih =>
    by_cases e : a = b + 1
    · subst e; exact Int.le_refl _
    · have := ih (by omega) (by omega)
      have := lenS_bound hs (r := (b : Int) + 1) (by omega)
      simp only [befF]; omega
theorem befF_step {s R : Int} (hR : 1 ≤ R) : befF s R.toNat = befF s (R - 1).toNat + lenS s R := by
  obtain ⟨n, rfl⟩ : ∃ n : Nat, R = (n : Int) + 1 := ⟨(R - 1).toNat, by omega⟩
  rw [show ((n : Int) + 1).toNat = n + 1 by omega, show ((n : Int) + 1 - 1).toNat = n by omega]; rfl
theorem befF_px {k : Int} (hk : btw 0 k 4 = true) : befF (sd k) (4 * sd k - 1).toNat = px k := by
  rcases ord_cases hk with rfl | rfl | rfl | rfl | rfl <;> decide +kernel
theorem sd_b {k : Int} (hk : btw 0 k 4 = true) : 1 ≤ sd k ∧ sd k ≤ 16 := by rcases sd_cases hk with h | h | h | h | h <;> omega
/-- between its rings -/
theorem rgN_in {k p : Int} (h : okP k p = true) : befF (sd k) (pR k p - 1).toNat ≤ rgN k p ∧ rgN k p < befF (sd k) (pR k p).toNat := by
  have hf := place_facts h
  have hb := ring_bounds h
  rw [befF_step hb.1, rgN_eq]
  omega
theorem rgN_bounds {k p : Int} (h : okP k p = true) : 0 ≤ rgN k p ∧ rgN k p < px k := by
  have hk := okP_k h
  have hb := ring_bounds h
  have hi := rgN_in h
  have h1 := befF_mono (sd_b hk) (pR k p).toNat (4 * sd k - 1).toNat (by omega) (by omega)
  have h2 := befF_bound (sd_b hk) (pR k p - 1).toNat (by omega)
  rw [befF_px hk] at h1
  omega
theorem rgN_lt {k p q : Int} (hp : okP k p = true) (hq : okP k q = true) : rgN k p < rgN k q ↔ (pR k p < pR k q ∨ pR k p = pR k q ∧ pP k p < pP k q) := by
  have hk := okP_k hp
  have b1 := ring_bounds hp
  have b2 := ring_bounds hq
  have i1 := rgN_in hp
  have i2 := rgN_in hq
  rcases Int.lt_trichotomy (pR k p) (pR k q) with h | h | h
  · have := befF_mono (sd_b hk) (pR k p).toNat (pR k q - 1).toNat (by omega) (by omega)
    exact ⟨fun _ => .inl h, fun _ => by omega⟩
  · rw [rgN_eq, rgN_eq, h]
    omega
  · have := befF_mono (sd_b hk) (pR k q).toNat (pR k p - 1).toNat (by omega) (by omega)
    omega
theorem rgN_inj {k p q : Int} (hp : okP k p = true) (hq : okP k q = true) (h : rgN k p = rgN k q) : p = q := by
  have h1 := rgN_lt hp hq
  have h2 := rgN_lt hq hp
  apply rp_inj hp hq <;> omega
/-- the pixel with a ring number: its ring is found first -/
theorem rgN_pix {k R n : Int} (hk : btw 0 k 4 = true) (hR : 1 ≤ R ∧ R ≤ 4 * sd k - 1) (h1 : befF (sd k) (R - 1).toNat ≤ n) (h2 : n < befF (sd k) R.toNat) : okP k (pix k R (n - befF (sd k) (R - 1).toNat + 1)) = true ∧ rgN k (pix k R (n - befF (sd k) (R - 1).toNat + 1)) = n := by
  rw [befF_step hR.1] at h2
  have ho := onto hk hR (P := n - befF (sd k) (R - 1).toNat + 1) (by omega)
  refine ⟨ho.1, ?_⟩
  rw [rgN_eq, ho.2.1, ho.2.2]
  omega
/-- the pixel with a ring number -/
def frm (k n : Int) : Int := (((List.range (px k).toNat).find? fun p => rgN k (p : Nat) == n).getD 0 : Nat)
theorem frm_eq {k p n : Int} (h : okP k p = true) (hn : rgN k p = n) : frm k n = p := by
  obtain ⟨m, rfl, hm⟩ := okP_nat h
  unfold frm
  cases hf : (List.range (px k).toNat).find? fun p => rgN k (p : Nat) == n with
  | none =>
    have := List.find?_eq_none.1 hf m (by simpa using hm)
    simp [hn] at this
  | some q =>
    have h1 := List.find?_some hf
    have h2 := List.mem_of_find?_eq_some hf
    simp only [List.mem_range] at h2
    simp only [beq_iff_eq] at h1
    have := rgN_inj (okP_mk (okP_k h) h2) h (by rw [h1, hn])
    simpa using this
theorem find_ring {k n : Int} (hk : btw 0 k 4 = true) (h0 : 0 ≤ n) (h1 : n < px k) : ∃ R, (1 ≤ R ∧ R ≤ 4 * sd k - 1) ∧ befF (sd k) (R - 1).toNat ≤ n ∧ n < befF (sd k) R.toNat := by
  have hs := sd_b hk
  have key : ∀ m : Nat, (m : Int) ≤ 4 * sd k - 1 → n < befF (sd k) m → ∃ R, (1 ≤ R ∧ R ≤ 4 * sd k - 1) ∧ befF (sd k) (R - 1).toNat ≤ n ∧ n < befF (sd k) R.toNat := by
    intro m
    induction m with
    | zero => intro _ h; simp [befF] at h; omega
    | succ m ih =>
      intro hm h
      by_cases e : n < befF (sd k) m
      · exact ih (by omega) e
      · exact ⟨(m : Int) + 1, by omega, by rw [show ((m : Int) + 1 - 1).toNat = m by omega]; omega, by rw [show ((m : Int) + 1).toNat = m + 1 by omega]; exact h⟩
  exact key (4 * sd k - 1).toNat (by omega) (by rw [befF_px hk]; exact h1)
theorem frm_ok {k n : Int} (hn : okP k n = true) : okP k (frm k n) = true ∧ rgN k (frm k n) = n := by
  have hk := okP_k hn
  have hp : 0 ≤ n ∧ n ≤ px k - 1 := by unfold okP at hn; exact btw_iff.1 (Bool.and_eq_true_iff.1 hn).2
  obtain ⟨R, hR, h1, h2⟩ := find_ring hk hp.1 (by omega)
  obtain ⟨a, b⟩ := rgN_pix hk hR h1 h2
  rw [frm_eq a b]
  exact ⟨a, b⟩
end Go.Proofs.Ytgbpmleipdecgaa
