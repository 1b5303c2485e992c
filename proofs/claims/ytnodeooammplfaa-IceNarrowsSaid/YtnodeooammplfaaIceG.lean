/- Walks over package ice and its reference: the reference's Loss; the mean of a loss. -/
import Derived.Test.YtnodeooammplfaaIceF
namespace Go.Proofs.Ytnodeooammplfaa
set_option linter.unusedVariables false
open Go.RowKit

theorem LossR_eq (L : List (Int × Int)) (x y : Int) : LossR L x y = (btw 0 x (mets L).length && btw 0 y (mets L).length) := by
  unfold LossR
  rw [cum_length, isB_two_eq]

theorem refLoss_any (A : Option Addr) (c : Nat) (L : List (Int × Int)) (x y : Int) (w : World) (hr : RdP w w.heap.size A L) (hl : L.length ≤ 1125899906842624) :
    Calls Try.prog 25 #[.slice A L.length c, .int .i64 x, .int .i64 y] w fun e w' => e = .returned (.tuple #[.int .i64 (val (LossE L x y) (LossV L x y)), .int .i64 (LossE L x y)]) ∧ Below w.heap.size w w' := by
  have HV := Lib.hid (refValid_any A c L w hr hl)
  cases hv : vld L
  · rw [hv] at HV
    have H1 := Lib.hid (@ret_no L (LossR L x y) (LossV L x y) 40 (by rw [gate_bad hv]; decide) (gate_bad hv).symm)
    clear hr hv
    go_enter Try.func25, Try.ntmps25
    go_wp2_with (go_at_call 21; refine HV.out.mono ?_; rintro e w' ⟨rfl, rfl⟩)
    go_ret2
    exact ⟨H1.out, Below.refl _ _⟩
  · have HM := Lib.hid (Metres_any A c L w hr (okL_of_vld hv))
    have h600 := mets_len600 (okL_of_vld hv)
    have HMm := Lib.hid (mets_mem (okL_of_vld hv))
    rw [hv] at HV
    have hR := LossR_eq L x y
    cases hb : btw 0 x (mets L).length
    · have H1 := Lib.hid (@ret_no L (LossR L x y) (LossV L x y) 2 (by rw [gate_arg hv (by rw [hR, hb]; rfl)]; decide) (gate_arg hv (by rw [hR, hb]; rfl)).symm)
      clear hr hv hR
      go_enter Try.func25, Try.ntmps25
      go_wp2_with (first
        | (go_at_call 21; refine HV.out.mono ?_; rintro e w' ⟨rfl, rfl⟩)
        | (go_at_call 28; refine HM.out.mono ?_; rintro e w1 ⟨hB, A', c', rfl, hR⟩)
        | (go_at_call 64; refine (within_any _ _ _ _).mono ?_; rintro e w' ⟨rfl, rfl⟩))
      go_ret2
      exact ⟨H1.out, hB⟩
    · cases hb2 : btw 0 y (mets L).length
      · have H1 := Lib.hid (@ret_no L (LossR L x y) (LossV L x y) 2 (by rw [gate_arg hv (by rw [hR, hb, hb2]; rfl)]; decide) (gate_arg hv (by rw [hR, hb, hb2]; rfl)).symm)
        clear hr hv hR
        go_enter Try.func25, Try.ntmps25
        go_wp2_with (first
          | (go_at_call 21; refine HV.out.mono ?_; rintro e w' ⟨rfl, rfl⟩)
          | (go_at_call 28; refine HM.out.mono ?_; rintro e w1 ⟨hB, A', c', rfl, hR⟩)
          | (go_at_call 64; refine (within_any _ _ _ _).mono ?_; rintro e w' ⟨rfl, rfl⟩))
        go_ret2
        exact ⟨H1.out, hB⟩
      · have H1 := Lib.hid (@ret_err L (LossR L x y) (LossV L x y) 0 hv (by rw [hR, hb, hb2]; rfl) rfl _ rfl)
        have h1 := btw_iff.1 hb
        have h2 := btw_iff.1 hb2
        clear hr hv hR
        go_enter Try.func25, Try.ntmps25
        go_wp2_with (first
          | (go_at_call 21; refine HV.out.mono ?_; rintro e w' ⟨rfl, rfl⟩)
          | (go_at_call 28; refine HM.out.mono ?_; rintro e w1 ⟨hB, A', c', rfl, hR⟩)
          | (go_at_call 70; refine (refloss_any A' c' (mets L) x y _ hR h600 HMm.out h1.1 h1.2 h2.1 h2.2).mono ?_; rintro e w' ⟨rfl, rfl⟩)
          | (go_at_call 64; refine (within_any _ _ _ _).mono ?_; rintro e w' ⟨rfl, rfl⟩))
        go_ret2
        exact ⟨H1.out, hB⟩

def MeanR (L : List (Int × Int)) (x y : Int) : Bool := LossR L x y && (x != y)
def MeanE (L : List (Int × Int)) (x y : Int) : Int := gate (vld L) (MeanR L x y)
def dist (x y : Int) : Int := max (x - y) (y - x)
def ratN (n d : Int) : Int := n / (Int.gcd n d : Nat)
def ratD (n d : Int) : Int := d / (Int.gcd n d : Nat)
def MeanV (L : List (Int × Int)) (x y : Int) : Value := .tuple #[.agg #[.int .i64 (val (MeanE L x y) (ratN (LossV L x y) (dist x y))), .int .i64 (val (MeanE L x y) (ratD (LossV L x y) (dist x y)))], .int .i64 (MeanE L x y)]

theorem Mean1_any (A : Option Addr) (n c b0 b1 : Nat) (x y : Int) (w : World) (hn : n ≤ 1000000) (hc : w.cell? ⟨b0, 0, none⟩ = some (.int .i64 x)) (hc1 : w.cell? ⟨b1, 0, none⟩ = some (.int .i64 y)) (h0 : b0 < w.heap.size) (h1 : b1 < w.heap.size) :
    Calls Try.prog 71 #[.slice A n c, .pointer (some ⟨b0, 0, none⟩), .pointer (some ⟨b1, 0, none⟩)] w fun e w' => e = .returned (.bool (isB n [x, y] && (x != y))) ∧ Below w.heap.size w w' := by
  have H := Lib.hid (is_any A (some ⟨w.heap.size, 0, none⟩) n c 2 [x, y] (w.alloc (.cells #[.int .i64 x, .int .i64 y] 3)) hn (RdI.two w x y 3) (by simp))
  cases hr : isB n [x, y]
  all_goals
    rw [hr] at H
    clear hr
    go_enter Try.func71, Try.ntmps71
    go_wp2_with (go_at_call 68; refine H.out.mono ?_; rintro e w' ⟨rfl, rfl⟩)
    go_ret
    exact ⟨ret_bool (by simp), below_alloc _ _⟩
end Go.Proofs.Ytnodeooammplfaa
