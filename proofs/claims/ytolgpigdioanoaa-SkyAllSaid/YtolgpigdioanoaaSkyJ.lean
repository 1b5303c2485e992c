/- Walks over package sky: how many pixels the rings before a ring have. -/
import Derived.Test.YtolgpigdioanoaaSkyI
namespace Go.Proofs.Ytolgpigdioanoaa
set_option linter.unusedSimpArgs false
set_option linter.unusedVariables false
open Go.RowKit

/-- the pixels of the first rings -/
def befF (s : Int) : Nat → Int
  | 0 => 0
  | n + 1 => befF s n + lenS s ((n : Int) + 1)
theorem lenS_bound {s r : Int} (hs : 1 ≤ s ∧ s ≤ 16) (hr : 1 ≤ r ∧ r ≤ 4 * s - 1) : 4 ≤ lenS s r ∧ lenS s r ≤ 64 := by unfold lenS; omega
theorem befF_bound {s : Int} (hs : 1 ≤ s ∧ s ≤ 16) (n : Nat) (hn : (n : Int) ≤ 4 * s - 1) : 0 ≤ befF s n ∧ befF s n ≤ 64 * n := by
  induction n with
  | zero => simp [befF]
  | succ n ih =>
    have h1 := ih (by omega)
    have h2 := lenS_bound hs (r := (n : Int) + 1) (by omega)
    simp only [befF]
    omega

set_option maxHeartbeats 1000000 in
theorem before_any (k r : Int) (w : World) (hk : btw 0 k 4 = true) (hr : 1 ≤ r ∧ r ≤ 4 * sd k) :
    Calls Try.prog 93 #[.agg #[.int .i64 k, .int .i64 (sd k)], .int .i64 r] w fun e w' => e = .returned (.int .i64 (befF (sd k) (r - 1).toNat)) ∧ Below w.heap.size w w' := by
  have hs : 1 ≤ sd k ∧ sd k ≤ 16 := by rcases sd_cases hk with h | h | h | h | h <;> omega
  have HL := Lib.hid (fun r W h => length_any k r W hk h)
  clear hk
  generalize sd k = s at *
  have hB0 := below_alloc w (.cells #[.int .i64 k, .int .i64 s] 68)
  go_enter Try.func93, Try.ntmps93
  go_wp2
  go_loopg [5, 6] 64 (fun kk u t wr => ∃ i : Nat, u = .int .i64 (befF s i) ∧ t = .int .i64 ((i : Int) + 1) ∧ (i : Int) + 1 ≤ r ∧ 64 - i ≤ kk ∧ Below (w.alloc (.cells #[.int .i64 k, .int .i64 s] 68)).heap.size (w.alloc (.cells #[.int .i64 k, .int .i64 s] 68)) wr)
  case atStart => exact ⟨0, rfl, rfl, by omega, by omega, Below.refl _ _⟩
  case round =>
    obtain ⟨i, rfl, rfl, hi, hkk, hB⟩ := hrel
    obtain ⟨⟨c0, c1⟩, f0, f1⟩ := ((Box.new w 68 #[.int .i64 k, .int .i64 s]).on hB).two
    by_cases hlt : (i : Int) + 1 < r
    · have b1 := befF_bound hs i (by omega)
      have b2 := lenS_bound hs (r := (i : Int) + 1) (by omega)
      have hbs : befF s (i + 1) = befF s i + lenS s ((i : Int) + 1) := rfl
      have HBS := Lib.hid hbs; clear hbs
      have hw1 : IntKind.i64.wrap (befF s i + lenS s ((i : Int) + 1)) = befF s i + lenS s ((i : Int) + 1) := IntWalk.i64_in _ (by omega)
      have hw2 : IntKind.i64.wrap ((i : Int) + 1 + 1) = (i : Int) + 1 + 1 := IntWalk.i64_in _ (by omega)
      have hw3 : IntKind.i64.wrap ((i : Int) + 2) = (i : Int) + 2 := IntWalk.i64_in _ (by omega)
      have HLi := Lib.hid (fun W => HL.out ((i : Int) + 1) W (by omega))
      generalize lenS s ((i : Int) + 1) = L at *
      generalize befF s i = b at *
      go_wp2_with (go_at_call 80; refine (HLi.out _).mono ?_; rintro e w1 ⟨rfl, h1⟩)
      go_roundg (64 - (i + 1))
      case measure => omega
      case rel => exact ⟨i + 1, by rw [HBS.out], by go_num, by omega, by omega, hB.trs h1⟩
    · obtain rfl : r = (i : Int) + 1 := by omega
      go_wp2
      go_ret
      exact ⟨ret_int (by first | rfl | (rw [show ((i : Int) + 1 - 1).toNat = i by omega])), hB0.trs hB⟩
end Go.Proofs.Ytolgpigdioanoaa
