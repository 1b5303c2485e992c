/- SkyH SkyI SkyJ SkyK -/
import Derived.Test.YtgbpmleipdecgaaSkyE
/- Walks over package sky and its reference: the lengths of rings. -/
namespace Go.Proofs.Ytgbpmleipdecgaa
set_option linter.unusedSimpArgs false
set_option linter.unusedVariables false
open Go.RowKit

/-- the length of a ring -/
def lenS (s r : Int) : Int := if r < s then 4 * r else if 3 * s < r then 4 * (4 * s - r) else 4 * s
/-- there is the ring -/
def okR (k r : Int) : Bool := btw 0 k 4 && btw 1 r (4 * sd k - 1)
theorem okR_k {k r : Int} (h : okR k r = true) : btw 0 k 4 = true := by unfold okR at h; exact (Bool.and_eq_true_iff.1 h).1
theorem okR_r {k r : Int} (h : okR k r = true) : 1 ≤ r ∧ r ≤ 4 * sd k - 1 := by unfold okR at h; exact btw_iff.1 (Bool.and_eq_true_iff.1 h).2

theorem length_gen (k s r q c v L : Int) (w : World) (hq : IntKind.i64.wrap (4 * s) = q) (hq' : wrap64 (4 * s) = q) (hc : IntKind.i64.wrap (q - r) = c) (hv : (if c < (if s < r then s else r) then c else (if s < r then s else r)) = v) (hL : IntKind.i64.wrap (4 * v) = L) (hL' : wrap64 (4 * v) = L) :
    Calls Try.prog 60 #[.agg #[.int .i64 k, .int .i64 s], .int .i64 r] w fun e w' => e = .returned (.int .i64 L) ∧ Below w.heap.size w w' := by
  go_enter Try.func60, Try.ntmps60
  go_wp2_with fail
  go_ret
  exact ⟨rfl, below_alloc _ _⟩

theorem length_any (k r : Int) (w : World) (hk : btw 0 k 4 = true) (hr : 1 ≤ r ∧ r ≤ 4 * sd k - 1) :
    Calls Try.prog 60 #[.agg #[.int .i64 k, .int .i64 (sd k)], .int .i64 r] w fun e w' => e = .returned (.int .i64 (lenS (sd k) r)) ∧ Below w.heap.size w w' := by
  have hs : 1 ≤ sd k ∧ sd k ≤ 16 := by rcases sd_cases hk with h | h | h | h | h <;> omega
  generalize sd k = s at *
  obtain ⟨v, hv⟩ : ∃ v, (if 4 * s - r < (if s < r then s else r) then 4 * s - r else (if s < r then s else r)) = v := ⟨_, rfl⟩
  have hl : 4 * v = lenS s r ∧ 0 ≤ v ∧ v ≤ 16 := by unfold lenS; omega
  have := length_gen k s r (4 * s) (4 * s - r) v (4 * v) w (IntWalk.i64_in _ (by omega)) (IntWalk.wrap64_in _ (by omega)) (IntWalk.i64_in _ (by omega)) hv (IntWalk.i64_in _ (by omega)) (IntWalk.wrap64_in _ (by omega))
  rwa [hl.1] at this

theorem rings_any (k s : Int) (w : World) (hs : 1 ≤ s ∧ s ≤ 16) :
    Calls Try.prog 40 #[.agg #[.int .i64 k, .int .i64 s]] w fun e w' => e = .returned (.int .i64 (4 * s - 1)) ∧ Below w.heap.size w w' := by
  have h1 : IntKind.i64.wrap (4 * s) = 4 * s := IntWalk.i64_in _ (by omega)
  have h2 : wrap64 (4 * s) = 4 * s := IntWalk.wrap64_in _ (by omega)
  have h3 : IntKind.i64.wrap (4 * s - 1) = 4 * s - 1 := IntWalk.i64_in _ (by omega)
  go_enter Try.func40, Try.ntmps40
  go_wp2_with fail
  go_ret
  exact ⟨rfl, below_alloc _ _⟩

def LenV (k r : Int) : Value := if okR k r then .tuple #[.int .i64 (lenS (sd k) r), .int .i64 0] else .tuple #[.int .i64 0, .int .i64 2]

end Go.Proofs.Ytgbpmleipdecgaa

/- Walks over package sky: the length of a ring, asked. -/
namespace Go.Proofs.Ytgbpmleipdecgaa
set_option linter.unusedSimpArgs false
set_option linter.unusedVariables false
open Go.RowKit

end Go.Proofs.Ytgbpmleipdecgaa

/- Walks over package sky: how many pixels the rings before a ring have. -/
namespace Go.Proofs.Ytgbpmleipdecgaa
set_option linter.unusedSimpArgs false
set_option linter.unusedVariables false
open Go.RowKit

/-- the pixels of the first rings -/
def befF (s : Int) : Nat → Int
  | 0 => 0
  | n + 1 => befF s n + lenS s ((n : Int) + 1)
theorem lenS_bound {s r : Int} (hs : 1 ≤ s ∧ s ≤ 16) (hr : 1 ≤ r ∧ r ≤ 4 * s - 1) : 4 ≤ lenS s r ∧ lenS s r ≤ 64 := by unfold lenS; omega
theorem befF_bound {s : Int} (hs : 1 ≤ s ∧ s ≤ 16) (n : Nat) (hn : (n : Int) ≤ 4 * s - 1) : 0 ≤ befF s n ∧ befF s n ≤ 64 * n := by
  induction n with
  | zero => simp [befF]
  | succ n ih =>
    have h1 := ih (by omega)
    have h2 := lenS_bound hs (r := (n : Int) + 1) (by omega)
    simp only [befF]
    omega

set_option maxHeartbeats 1000000 in
theorem before_any (k r : Int) (w : World) (hk : btw 0 k 4 = true) (hr : 1 ≤ r ∧ r ≤ 4 * sd k) :
    Calls Try.prog 27 #[.agg #[.int .i64 k, .int .i64 (sd k)], .int .i64 r] w fun e w' => e = .returned (.int .i64 (befF (sd k) (r - 1).toNat)) ∧ Below w.heap.size w w' := by
  have hs : 1 ≤ sd k ∧ sd k ≤ 16 := by rcases sd_cases hk with h | h | h | h | h <;> omega
  have HL := Lib.hid (fun r W h => length_any k r W hk h)
  clear hk
  generalize sd k = s at *
  have hB0 := below_alloc w (.cells #[.int .i64 k, .int .i64 s] 54)
  go_enter Try.func27, Try.ntmps27
  go_wp2
  go_loopg [5, 6] 64 (fun kk u t wr => ∃ i : Nat, u = .int .i64 (befF s i) ∧ t = .int .i64 ((i : Int) + 1) ∧ (i : Int) + 1 ≤ r ∧ 64 - i ≤ kk ∧ Below (w.alloc (.cells #[.int .i64 k, .int .i64 s] 54)).heap.size (w.alloc (.cells #[.int .i64 k, .int .i64 s] 54)) wr)
  case atStart => exact ⟨0, rfl, rfl, by omega, by omega, Below.refl _ _⟩
  case round =>
    obtain ⟨i, rfl, rfl, hi, hkk, hB⟩ := hrel
    obtain ⟨⟨c0, c1⟩, f0, f1⟩ := ((Box.new w 54 #[.int .i64 k, .int .i64 s]).on hB).two
    by_cases hlt : (i : Int) + 1 < r
    · have b1 := befF_bound hs i (by omega)
      have b2 := lenS_bound hs (r := (i : Int) + 1) (by omega)
      have hbs : befF s (i + 1) = befF s i + lenS s ((i : Int) + 1) := rfl
      have HBS := Lib.hid hbs; clear hbs
      have hw1 : IntKind.i64.wrap (befF s i + lenS s ((i : Int) + 1)) = befF s i + lenS s ((i : Int) + 1) := IntWalk.i64_in _ (by omega)
      have hw2 : IntKind.i64.wrap ((i : Int) + 1 + 1) = (i : Int) + 1 + 1 := IntWalk.i64_in _ (by omega)
      have hw3 : IntKind.i64.wrap ((i : Int) + 2) = (i : Int) + 2 := IntWalk.i64_in _ (by omega)
      have HLi := Lib.hid (fun W => HL.out ((i : Int) + 1) W (by omega))
      generalize lenS s ((i : Int) + 1) = L at *
      generalize befF s i = b at *
      go_wp2_with (go_at_call 60; refine (HLi.out _).mono ?_; rintro e w1 ⟨rfl, h1⟩)
      go_roundg (64 - (i + 1))
      case measure => omega
      case rel => exact ⟨i + 1, by rw [HBS.out], by go_num, by omega, by omega, hB.trs h1⟩
    · obtain rfl : r = (i : Int) + 1 := by omega
      go_wp2
      go_ret
      exact ⟨ret_int (by first | rfl | (rw [show ((i : Int) + 1 - 1).toNat = i by omega])), hB0.trs hB⟩
end Go.Proofs.Ytgbpmleipdecgaa

/- Walks over package sky: the spot of a pixel. -/
namespace Go.Proofs.Ytgbpmleipdecgaa
set_option linter.unusedSimpArgs false
set_option linter.unusedVariables false
open Go.RowKit

/-- the pixel's number on its face, its face, its place there -/
def fN (k p : Int) : Int := p % (sd k * sd k)
def fX (k p : Int) : Int := gat (fN k p)
def fY (k p : Int) : Int := gat (fN k p / 2)
def fF (k p : Int) : Int := p / (sd k * sd k)
theorem gat_fin (k : Fin 5) (n : Fin 256) : (n.val : Int) < 4 ^ k.val → (0 ≤ gat n.val ∧ gat n.val < 2 ^ k.val) ∧ 0 ≤ gat ((n.val : Int) / 2) ∧ gat ((n.val : Int) / 2) < 2 ^ k.val := by
  revert k n; decide +kernel
theorem sd_sq {k : Int} (hk : btw 0 k 4 = true) : sd k * sd k = 4 ^ k.toNat ∧ 1 ≤ sd k * sd k ∧ sd k * sd k ≤ 256 ∧ px k = 12 * (sd k * sd k) := by
  rcases ord_cases hk with rfl | rfl | rfl | rfl | rfl <;> decide
theorem spot_bounds {k p : Int} (h : okP k p = true) : (0 ≤ fX k p ∧ fX k p ≤ sd k - 1) ∧ (0 ≤ fY k p ∧ fY k p ≤ sd k - 1) ∧ 0 ≤ fF k p ∧ fF k p ≤ 11 := by
  have hk := okP_k h
  obtain ⟨h1, h2, h3, h4⟩ := sd_sq hk
  have hkk := btw_iff.1 hk
  have hp : 0 ≤ p ∧ p ≤ px k - 1 := by
    unfold okP at h; exact btw_iff.1 (Bool.and_eq_true_iff.1 h).2
  have m1 := Int.emod_nonneg p (show sd k * sd k ≠ 0 by omega)
  have m2 := Int.emod_lt_of_pos p (show 0 < sd k * sd k by omega)
  have g := gat_fin ⟨k.toNat, by omega⟩ ⟨(fN k p).toNat, by unfold fN; omega⟩ (by
    show (((fN k p).toNat : Nat) : Int) < 4 ^ k.toNat
    unfold fN; omega)
  simp only [show (((fN k p).toNat : Nat) : Int) = fN k p by unfold fN; omega] at g
  have hs : sd k = 2 ^ k.toNat := rfl
  refine ⟨⟨g.1.1, by have := g.1.2; unfold fX; omega⟩, ⟨g.2.1, by have := g.2.2; unfold fY; omega⟩, ?_, ?_⟩
  · exact Int.ediv_nonneg hp.1 (by omega)
  · unfold fF
    have : p / (sd k * sd k) < 12 := Int.ediv_lt_of_lt_mul (by omega) (by omega)
    omega

theorem spot_any (k p : Int) (w : World) (h : okP k p = true) :
    Calls Try.prog 31 #[.agg #[.int .i64 k, .int .i64 (sd k)], .int .i64 p] w fun e w' => e = .returned (.agg #[.int .i64 (fF k p), .int .i64 (fX k p), .int .i64 (fY k p)]) ∧ Below w.heap.size w w' := by
  have hk := okP_k h
  obtain ⟨h1, h2, h3, h4⟩ := sd_sq hk
  have hp := okP_p h
  exact spot_gen k (sd k) p (sd k * sd k) w (IntWalk.i64_in _ (by omega)) (IntWalk.wrap64_in _ (by omega)) (by omega) (by omega) (by omega) (by omega)
end Go.Proofs.Ytgbpmleipdecgaa
