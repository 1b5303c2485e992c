/- Walks over package ice and its reference: Depth, Dim, Loss, the sanity check. -/
import Derived.Test.YtbocedbonaeohaaIceD
namespace Go.Proofs.Ytbocedbonaeohaa
set_option linter.unusedVariables false
open Go.RowKit

theorem isB_two {n : Nat} {x y : Int} : isB n [x, y] = true ↔ (0 ≤ x ∧ x ≤ (n : Int) - 1) ∧ 0 ≤ y ∧ y ≤ (n : Int) - 1 := by simp [isB, btw]
theorem isB_two_eq {n : Nat} {x y : Int} : isB (n + 1) [x, y] = (btw 0 x n && btw 0 y n) := by
  rw [Bool.eq_iff_iff, isB_two]
  simp only [Bool.and_eq_true, btw_iff]
  omega
theorem ret_err {L : List (Int × Int)} {r : Bool} {x er : Int} (hv : vld L = true) (hr : r = true) (he : er = 0) {y : Int} (hy : y = x) :
    Ending.returned (.tuple #[.int .i64 y, .int .i64 er]) = .returned (.tuple #[.int .i64 (val (gate (vld L) r) x), .int .i64 (gate (vld L) r)]) := by
  rw [hy, he, gate_ok hv hr, val_ok rfl]
theorem ret_no {L : List (Int × Int)} {r : Bool} {x er : Int} (hg : gate (vld L) r ≠ 0) (he : er = gate (vld L) r) :
    Ending.returned (.tuple #[.int .i64 0, .int .i64 er]) = .returned (.tuple #[.int .i64 (val (gate (vld L) r) x), .int .i64 (gate (vld L) r)]) := by
  rw [he, val_no hg]

theorem Loss1_any (A : Option Addr) (n c b0 b1 : Nat) (x y : Int) (w : World) (hn : n ≤ 1000000) (hc : w.cell? ⟨b0, 0, none⟩ = some (.int .i64 x)) (hc1 : w.cell? ⟨b1, 0, none⟩ = some (.int .i64 y)) :
    Calls Try.prog 42 #[.slice A n c, .pointer (some ⟨b0, 0, none⟩), .pointer (some ⟨b1, 0, none⟩)] w fun e w' => e = .returned (.bool (isB n [x, y])) ∧ Below w.heap.size w w' := by
  have H := Lib.hid (is_any A (some ⟨w.heap.size, 0, none⟩) n c 2 [x, y] (w.alloc (.cells #[.int .i64 x, .int .i64 y] 3)) hn (RdI.two w x y 3) (by simp))
  generalize isB n [x, y] = r at *
  go_enter Try.func42, Try.ntmps42
  go_wp2_with (go_at_call 43; refine H.out.mono ?_; rintro e w' ⟨rfl, rfl⟩)
  go_ret
  exact ⟨rfl, below_alloc _ _⟩

/-- a column's loss at depths of the ice -/
theorem loss_col (A : Option Addr) (c : Nat) (L : List (Int × Int)) (x y : Int) (w : World) (hr : RdI w w.heap.size A (cum (mets L))) (hv : vld L = true) (hb : isB (cum (mets L)).length [x, y] = true) :
    Calls Try.prog 44 #[.slice A (cum (mets L)).length c, .int .i64 x, .int .i64 y] w fun e w' => e = .returned (.int .i64 (lossI (cum (mets L)) x.toNat y.toNat)) ∧ ∃ n, w' = w.drewN n := by
  have h := isB_two.1 hb
  have h600 := mets_len600 (okL_of_vld hv)
  have hcl := cum_length (mets L)
  exact loss_any A c _ x y w hr (by omega) (by omega) (by omega) (by omega) (by omega) (ice_bounds (okL_of_vld hv))

def LossR (L : List (Int × Int)) (x y : Int) : Bool := isB (cum (mets L)).length [x, y]
def LossV (L : List (Int × Int)) (x y : Int) : Int := lossI (cum (mets L)) x.toNat y.toNat
def LossE (L : List (Int × Int)) (x y : Int) : Int := gate (vld L) (LossR L x y)

theorem Loss_any (A : Option Addr) (c : Nat) (L : List (Int × Int)) (x y : Int) (w : World) (hr : RdP w w.heap.size A L) (hl : L.length ≤ 1125899906842624) :
    Calls Try.prog 16 #[.slice A L.length c, .int .i64 x, .int .i64 y] w fun e w' => e = .returned (.tuple #[.int .i64 (val (LossE L x y) (LossV L x y)), .int .i64 (LossE L x y)]) ∧ Below w.heap.size w w' := by
  have hB0 : Below w.heap.size w ((w.alloc (.cells #[.int .i64 x] 3)).alloc (.cells #[.int .i64 y] 3)) := (below_alloc _ _).trs (below_alloc _ _)
  have HO := Lib.hid (opened_any 42 #[.pointer (some ⟨w.heap.size, 0, none⟩), .pointer (some ⟨w.heap.size + 1, 0, none⟩)] A c L (LossR L x y) ((w.alloc (.cells #[.int .i64 x] 3)).alloc (.cells #[.int .i64 y] 3)) (hr.on hB0) hl (enters_of Try.func42 (by kernel_rfl) rfl) (by
    intro hv W A' c' hB hR
    have h600 := mets_len600 (okL_of_vld hv)
    exact Loss1_any A' (cum (mets L)).length c' w.heap.size (w.heap.size + 1) x y W (by rw [cum_length]; omega) (keep21 hB) (keep22 hB)))
  clear hr
  go_enter Try.func16, Try.ntmps16
  go_wp2_with (first
    | (go_at_call 23; refine HO.out.mono ?_; rintro e w1 ⟨hB, h⟩; have hB1 := bcell hB; rcases h with ⟨hg, rfl⟩ | ⟨hv, hrt, A', c', rfl, hR⟩)
    | (go_at_call 44; refine (loss_col A' c' L x y _ hR hv hrt).mono ?_; rintro e w2 ⟨rfl, nq, rfl⟩))
  all_goals go_ret2
  · exact ⟨ret_no hg rfl, hB0.trs hB⟩
  · exact ⟨ret_err hv hrt rfl rfl, (hB0.trs hB).drewsN _⟩
end Go.Proofs.Ytbocedbonaeohaa
