/- Walks over package sky and its reference: the lengths of rings. -/
import Derived.Test.YtolgpigdioanoaaSkyE
namespace Go.Proofs.Ytolgpigdioanoaa
set_option linter.unusedSimpArgs false
set_option linter.unusedVariables false
open Go.RowKit

/-- the length of a ring -/
def lenS (s r : Int) : Int := if r < s then 4 * r else if 3 * s < r then 4 * (4 * s - r) else 4 * s
/-- there is the ring -/
def okR (k r : Int) : Bool := btw 0 k 4 && btw 1 r (4 * sd k - 1)
theorem okR_k {k r : Int} (h : okR k r = true) : btw 0 k 4 = true := by unfold okR at h; exact (Bool.and_eq_true_iff.1 h).1
theorem okR_r {k r : Int} (h : okR k r = true) : 1 ≤ r ∧ r ≤ 4 * sd k - 1 := by unfold okR at h; exact btw_iff.1 (Bool.and_eq_true_iff.1 h).2

theorem length_gen (k s r q c v L : Int) (w : World) (hq : IntKind.i64.wrap (4 * s) = q) (hq' : wrap64 (4 * s) = q) (hc : IntKind.i64.wrap (q - r) = c) (hv : (if c < (if s < r then s else r) then c else (if s < r then s else r)) = v) (hL : IntKind.i64.wrap (4 * v) = L) (hL' : wrap64 (4 * v) = L) :
    Calls Try.prog 80 #[.agg #[.int .i64 k, .int .i64 s], .int .i64 r] w fun e w' => e = .returned (.int .i64 L) ∧ Below w.heap.size w w' := by
  go_enter Try.func80, Try.ntmps80
  go_wp2_with fail
  go_ret
  exact ⟨rfl, below_alloc _ _⟩

theorem length_any (k r : Int) (w : World) (hk : btw 0 k 4 = true) (hr : 1 ≤ r ∧ r ≤ 4 * sd k - 1) :
    Calls Try.prog 80 #[.agg #[.int .i64 k, .int .i64 (sd k)], .int .i64 r] w fun e w' => e = .returned (.int .i64 (lenS (sd k) r)) ∧ Below w.heap.size w w' := by
  have hs : 1 ≤ sd k ∧ sd k ≤ 16 := by rcases sd_cases hk with h | h | h | h | h <;> omega
  generalize sd k = s at *
  obtain ⟨v, hv⟩ : ∃ v, (if 4 * s - r < (if s < r then s else r) then 4 * s - r else (if s < r then s else r)) = v := ⟨_, rfl⟩
  have hl : 4 * v = lenS s r ∧ 0 ≤ v ∧ v ≤ 16 := by unfold lenS; omega
  have := length_gen k s r (4 * s) (4 * s - r) v (4 * v) w (IntWalk.i64_in _ (by omega)) (IntWalk.wrap64_in _ (by omega)) (IntWalk.i64_in _ (by omega)) hv (IntWalk.i64_in _ (by omega)) (IntWalk.wrap64_in _ (by omega))
  rwa [hl.1] at this

theorem rings_any (k s : Int) (w : World) (hs : 1 ≤ s ∧ s ≤ 16) :
    Calls Try.prog 79 #[.agg #[.int .i64 k, .int .i64 s]] w fun e w' => e = .returned (.int .i64 (4 * s - 1)) ∧ Below w.heap.size w w' := by
  have h1 : IntKind.i64.wrap (4 * s) = 4 * s := IntWalk.i64_in _ (by omega)
  have h2 : wrap64 (4 * s) = 4 * s := IntWalk.wrap64_in _ (by omega)
  have h3 : IntKind.i64.wrap (4 * s - 1) = 4 * s - 1 := IntWalk.i64_in _ (by omega)
  go_enter Try.func79, Try.ntmps79
  go_wp2_with fail
  go_ret
  exact ⟨rfl, below_alloc _ _⟩

theorem isRing_any (k r : Int) (w : World) :
    Calls Try.prog 81 #[.int .i64 k, .int .i64 r] w fun e w' => e = .returned (.bool (okR k r)) ∧ w = w' := by
  have HO := Lib.hid (fun W => isOrder_any k W)
  cases hk : btw 0 k 4
  · rw [hk] at HO
    have HK := Lib.hid hk; clear hk
    go_enter Try.func81, Try.ntmps81
    go_wp2_with (go_at_call 73; refine (HO.out _).mono ?_; rintro e w' ⟨rfl, rfl⟩)
    go_ret
    exact ⟨ret_bool (by rw [okR, HK.out]; rfl), rfl⟩
  · have HS := Lib.hid (fun W => side_any k W hk)
    have hs : 1 ≤ sd k ∧ sd k ≤ 16 := by rcases sd_cases hk with h | h | h | h | h <;> omega
    rw [hk] at HO
    have hE : okR k r = btw 1 r (4 * sd k - 1) := by rw [okR, hk]; rfl
    have HE := Lib.hid hE; clear hE hk
    generalize sd k = s at *
    have h1 : IntKind.i64.wrap (4 * s) = 4 * s := IntWalk.i64_in _ (by omega)
    have h2 : wrap64 (4 * s) = 4 * s := IntWalk.wrap64_in _ (by omega)
    have h3 : IntKind.i64.wrap (4 * s - 1) = 4 * s - 1 := IntWalk.i64_in _ (by omega)
    go_enter Try.func81, Try.ntmps81
    go_wp2_with (first
      | (go_at_call 73; refine (HO.out _).mono ?_; rintro e w' ⟨rfl, rfl⟩)
      | (go_at_call 74; refine (HS.out _).mono ?_; rintro e w' ⟨rfl, rfl⟩)
      | (go_at_call 67; refine (within_any _ _ _ _).mono ?_; rintro e w' ⟨rfl, rfl⟩))
    go_ret
    exact ⟨ret_bool (by rw [HE.out]), rfl⟩

theorem reflength_any (k r : Int) (w : World) (hk : btw 0 k 4 = true) (hr : 1 ≤ r ∧ r ≤ 4 * sd k - 1) :
    Calls Try.prog 82 #[.int .i64 k, .int .i64 r] w fun e w' => e = .returned (.int .i64 (lenS (sd k) r)) ∧ w = w' := by
  have HS := Lib.hid (fun W => side_any k W hk)
  have hs : 1 ≤ sd k ∧ sd k ≤ 16 := by rcases sd_cases hk with h | h | h | h | h <;> omega
  clear hk
  generalize sd k = s at *
  have h1 : IntKind.i64.wrap (4 * s) = 4 * s := IntWalk.i64_in _ (by omega)
  have h2 : wrap64 (4 * s) = 4 * s := IntWalk.wrap64_in _ (by omega)
  have h3 : IntKind.i64.wrap (3 * s) = 3 * s := IntWalk.i64_in _ (by omega)
  have h4 : wrap64 (3 * s) = 3 * s := IntWalk.wrap64_in _ (by omega)
  have h5 : IntKind.i64.wrap (4 * s - r) = 4 * s - r := IntWalk.i64_in _ (by omega)
  have h6 : IntKind.i64.wrap (4 * (4 * s - r)) = 4 * (4 * s - r) := IntWalk.i64_in _ (by omega)
  have h7 : wrap64 (4 * (4 * s - r)) = 4 * (4 * s - r) := IntWalk.wrap64_in _ (by omega)
  have h8 : IntKind.i64.wrap (4 * r) = 4 * r := IntWalk.i64_in _ (by omega)
  have h9 : wrap64 (4 * r) = 4 * r := IntWalk.wrap64_in _ (by omega)
  rcases (show r < s ∨ (¬ r < s ∧ 3 * s < r) ∨ (¬ r < s ∧ ¬ 3 * s < r) by omega) with c | ⟨c, d⟩ | ⟨c, d⟩
  · have hL : Hid (lenS s r = 4 * r) := Lib.hid (by simp [lenS, c])
    go_enter Try.func82, Try.ntmps82
    go_wp2_with (go_at_call 74; refine (HS.out _).mono ?_; rintro e w' ⟨rfl, rfl⟩)
    go_ret
    exact ⟨ret_int (by rw [hL.out]), rfl⟩
  · have hL : Hid (lenS s r = 4 * (4 * s - r)) := Lib.hid (by simp [lenS, c, d])
    go_enter Try.func82, Try.ntmps82
    go_wp2_with (go_at_call 74; refine (HS.out _).mono ?_; rintro e w' ⟨rfl, rfl⟩)
    go_ret
    exact ⟨ret_int (by rw [hL.out]), rfl⟩
  · have hL : Hid (lenS s r = 4 * s) := Lib.hid (by simp [lenS, c, d])
    go_enter Try.func82, Try.ntmps82
    go_wp2_with (go_at_call 74; refine (HS.out _).mono ?_; rintro e w' ⟨rfl, rfl⟩)
    go_ret
    exact ⟨ret_int (by rw [hL.out]), rfl⟩

def LenV (k r : Int) : Value := if okR k r then .tuple #[.int .i64 (lenS (sd k) r), .int .i64 0] else .tuple #[.int .i64 0, .int .i64 2]

theorem refLength_any (k r : Int) (w : World) :
    Calls Try.prog 27 #[.int .i64 k, .int .i64 r] w fun e w' => e = .returned (LenV k r) ∧ w = w' := by
  have HI := Lib.hid (fun W => isRing_any k r W)
  cases hr : okR k r
  · have HV : Hid (LenV k r = .tuple #[.int .i64 0, .int .i64 2]) := Lib.hid (by simp [LenV, hr])
    rw [hr] at HI
    clear hr
    go_enter Try.func27, Try.ntmps27
    go_wp2_with (go_at_call 81; refine (HI.out _).mono ?_; rintro e w' ⟨rfl, rfl⟩)
    go_ret2
    exact ⟨(by rw [HV.out]; first | done | rfl), rfl⟩
  · have HV : Hid (LenV k r = .tuple #[.int .i64 (lenS (sd k) r), .int .i64 0]) := Lib.hid (by simp [LenV, hr])
    have HL := Lib.hid (fun W => reflength_any k r W (okR_k hr) (okR_r hr))
    rw [hr] at HI
    clear hr
    generalize lenS (sd k) r = L at *
    go_enter Try.func27, Try.ntmps27
    go_wp2_with (first | (go_at_call 81; refine (HI.out _).mono ?_; rintro e w' ⟨rfl, rfl⟩) | (go_at_call 82; refine (HL.out _).mono ?_; rintro e w' ⟨rfl, rfl⟩))
    go_ret2
    exact ⟨(by rw [HV.out]; first | done | rfl), rfl⟩
end Go.Proofs.Ytolgpigdioanoaa
