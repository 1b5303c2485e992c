/- Walks over package ice and its reference: Depth, Dim, Loss, the sanity check. -/
import Derived.Test.YtnodeooammplfaaIceD
namespace Go.Proofs.Ytnodeooammplfaa
set_option linter.unusedVariables false
open Go.RowKit

theorem isB_two {n : Nat} {x y : Int} : isB n [x, y] = true ↔ (0 ≤ x ∧ x ≤ (n : Int) - 1) ∧ 0 ≤ y ∧ y ≤ (n : Int) - 1 := by simp [isB, btw]
theorem isB_two_eq {n : Nat} {x y : Int} : isB (n + 1) [x, y] = (btw 0 x n && btw 0 y n) := by
  rw [Bool.eq_iff_iff, isB_two]
  simp only [Bool.and_eq_true, btw_iff]
  omega
theorem ret_err {L : List (Int × Int)} {r : Bool} {x er : Int} (hv : vld L = true) (hr : r = true) (he : er = 0) {y : Int} (hy : y = x) :
    Ending.returned (.tuple #[.int .i64 y, .int .i64 er]) = .returned (.tuple #[.int .i64 (val (gate (vld L) r) x), .int .i64 (gate (vld L) r)]) := by
  rw [hy, he, gate_ok hv hr, val_ok rfl]
theorem ret_no {L : List (Int × Int)} {r : Bool} {x er : Int} (hg : gate (vld L) r ≠ 0) (he : er = gate (vld L) r) :
    Ending.returned (.tuple #[.int .i64 0, .int .i64 er]) = .returned (.tuple #[.int .i64 (val (gate (vld L) r) x), .int .i64 (gate (vld L) r)]) := by
  rw [he, val_no hg]

theorem Depth_any (A : Option Addr) (c : Nat) (L : List (Int × Int)) (w : World) (hr : RdP w w.heap.size A L) (hl : L.length ≤ 1125899906842624) :
    Calls Try.prog 18 #[.slice A L.length c] w fun e w' => e = .returned (.tuple #[.int .i64 (val (gate (vld L) true) (mets L).length), .int .i64 (gate (vld L) true)]) ∧ Below w.heap.size w w' := by
  have HO := Lib.hid (open_any A c L w hr hl)
  have H1 : Hid (vld L = false → Ending.returned (.tuple #[.int .i64 0, .int .i64 40]) = .returned (.tuple #[.int .i64 (val (gate (vld L) true) (mets L).length), .int .i64 (gate (vld L) true)])) := fun h => ret_no (by rw [gate_bad h]; decide) (gate_bad h).symm
  have H2 : Hid (vld L = true → Ending.returned (.tuple #[.int .i64 (((cum (mets L)).length : Int) - 1), .int .i64 0]) = .returned (.tuple #[.int .i64 (val (gate (vld L) true) (mets L).length), .int .i64 (gate (vld L) true)])) := fun h => ret_err h rfl rfl (by rw [cum_length]; omega)
  have H3 : Hid (vld L = true → (cum (mets L)).length ≤ 601) := fun h => by have := mets_len600 (okL_of_vld h); rw [cum_length]; omega
  clear hr
  generalize val (gate (vld L) true) (mets L).length = rv at *
  generalize gate (vld L) true = rg at *
  generalize L.length = n at *
  go_enter Try.func18, Try.ntmps18
  go_wp2_with (first
    | (go_at_call 59; refine HO.out.mono ?_; rintro e w1 ⟨hB, ⟨hv, rfl⟩ | ⟨hv, A', c', rfl, hR⟩⟩ <;> (have HV := Lib.hid hv; clear hv))
    | (go_at_call 60; refine (depth_any _ _ _ _ (by have := H3.out HV.out; omega)).mono ?_; rintro e w' ⟨rfl, rfl⟩))
  all_goals go_ret2
  · exact ⟨H1.out HV.out, hB⟩
  · exact ⟨H2.out HV.out, hB⟩

theorem refDepth_any (A : Option Addr) (c : Nat) (L : List (Int × Int)) (w : World) (hr : RdP w w.heap.size A L) (hl : L.length ≤ 1125899906842624) :
    Calls Try.prog 19 #[.slice A L.length c] w fun e w' => e = .returned (.tuple #[.int .i64 (val (gate (vld L) true) (mets L).length), .int .i64 (gate (vld L) true)]) ∧ Below w.heap.size w w' := by
  have HV := Lib.hid (refValid_any A c L w hr hl)
  cases hv : vld L
  · have H1 : Hid (Ending.returned (.tuple #[.int .i64 0, .int .i64 40]) = .returned (.tuple #[.int .i64 (val (gate false true) (mets L).length), .int .i64 (gate false true)])) := rfl
    rw [hv] at HV
    generalize val (gate false true) (mets L).length = rv at *
    generalize gate false true = rg at *
    generalize L.length = n at *
    clear hv hr
    go_enter Try.func19, Try.ntmps19
    go_wp2_with (go_at_call 21; refine HV.out.mono ?_; rintro e w' ⟨rfl, rfl⟩)
    go_ret2
    exact ⟨H1.out, Below.refl _ _⟩
  · have H1 : Hid (Ending.returned (.tuple #[.int .i64 (mets L).length, .int .i64 0]) = .returned (.tuple #[.int .i64 (val (gate true true) (mets L).length), .int .i64 (gate true true)])) := rfl
    have HM := Lib.hid (Metres_any A c L w hr (okL_of_vld hv))
    rw [hv] at HV
    generalize val (gate true true) (mets L).length = rv at *
    generalize gate true true = rg at *
    generalize L.length = n at *
    clear hv hr
    go_enter Try.func19, Try.ntmps19
    go_wp2_with (first
      | (go_at_call 21; refine HV.out.mono ?_; rintro e w' ⟨rfl, rfl⟩)
      | (go_at_call 28; refine HM.out.mono ?_; rintro e w1 ⟨hB, A', c', rfl, hR⟩))
    go_ret2
    exact ⟨H1.out, hB⟩

theorem Dim1_any (A : Option Addr) (n c b0 : Nat) (m : Int) (w : World) (hn : n ≤ 1000000) (hc : w.cell? ⟨b0, 0, none⟩ = some (.int .i64 m)) :
    Calls Try.prog 66 #[.slice A n c, .pointer (some ⟨b0, 0, none⟩)] w fun e w' => e = .returned (.bool (btw 0 m ((n : Int) - 1 - 1))) ∧ Below w.heap.size w w' := by
  have hw : IntKind.i64.wrap ((n : Int) - 1 - 1) = (n : Int) - 1 - 1 := IntWalk.i64_in _ (by omega)
  go_enter Try.func66, Try.ntmps66
  go_wp2
  go_quiet ((first | (go_at_call 60; exact quiet_left (depth_any _ _ _ _ hn)) | (go_at_call 61; exact quiet_left (between_any _ _ _ _))))
  go_wp2
  go_ret
  exact ⟨rfl, (Below.refl _ _).drewsN _⟩

theorem Loss1_any (A : Option Addr) (n c b0 b1 : Nat) (x y : Int) (w : World) (hn : n ≤ 1000000) (hc : w.cell? ⟨b0, 0, none⟩ = some (.int .i64 x)) (hc1 : w.cell? ⟨b1, 0, none⟩ = some (.int .i64 y)) :
    Calls Try.prog 67 #[.slice A n c, .pointer (some ⟨b0, 0, none⟩), .pointer (some ⟨b1, 0, none⟩)] w fun e w' => e = .returned (.bool (isB n [x, y])) ∧ Below w.heap.size w w' := by
  have H := Lib.hid (is_any A (some ⟨w.heap.size, 0, none⟩) n c 2 [x, y] (w.alloc (.cells #[.int .i64 x, .int .i64 y] 3)) hn (RdI.two w x y 3) (by simp))
  generalize isB n [x, y] = r at *
  go_enter Try.func67, Try.ntmps67
  go_wp2_with (go_at_call 68; refine H.out.mono ?_; rintro e w' ⟨rfl, rfl⟩)
  go_ret
  exact ⟨rfl, below_alloc _ _⟩

theorem Dim_any (A : Option Addr) (c : Nat) (L : List (Int × Int)) (m : Int) (w : World) (hr : RdP w w.heap.size A L) (hl : L.length ≤ 1125899906842624) :
    Calls Try.prog 22 #[.slice A L.length c, .int .i64 m] w fun e w' => e = .returned (.tuple #[.int .i64 (val (gate (vld L) (btw 0 m ((mets L).length - 1))) (ix (mets L) m.toNat)), .int .i64 (gate (vld L) (btw 0 m ((mets L).length - 1)))]) ∧ Below w.heap.size w w' := by
  have hr1 := hr.on (below_alloc w (.cells #[.int .i64 m] 3))
  have HO := Lib.hid (opened_any 66 #[.pointer (some ⟨w.heap.size, 0, none⟩)] A c L (btw 0 m ((mets L).length - 1)) (w.alloc (.cells #[.int .i64 m] 3)) hr1 hl (enters_of Try.func66 (by kernel_rfl) rfl) (by
    intro hv W A' c' hB hR
    have h600 := mets_len600 (okL_of_vld hv)
    have h := Dim1_any A' (cum (mets L)).length c' w.heap.size m W (by rw [cum_length]; omega) (by rw [hB.cell (p := ⟨w.heap.size, 0, none⟩) (by simp)]; exact cell_one _ _ _)
    rw [show (((cum (mets L)).length : Nat) : Int) - 1 - 1 = (mets L).length - 1 by rw [cum_length]; omega] at h
    exact h))
  have H1 : Hid (gate (vld L) (btw 0 m ((mets L).length - 1)) ≠ 0 → Ending.returned (.tuple #[.int .i64 0, .int .i64 (gate (vld L) (btw 0 m ((mets L).length - 1)))]) = .returned (.tuple #[.int .i64 (val (gate (vld L) (btw 0 m ((mets L).length - 1))) (ix (mets L) m.toNat)), .int .i64 (gate (vld L) (btw 0 m ((mets L).length - 1)))])) := fun h => ret_no h rfl
  have H2 : Hid (vld L = true → btw 0 m ((mets L).length - 1) = true → Ending.returned (.tuple #[.int .i64 (ix (mets L) m.toNat), .int .i64 0]) = .returned (.tuple #[.int .i64 (val (gate (vld L) (btw 0 m ((mets L).length - 1))) (ix (mets L) m.toNat)), .int .i64 (gate (vld L) (btw 0 m ((mets L).length - 1)))])) := fun h h' => ret_err h h' rfl rfl
  have HC : Hid (∀ W A', vld L = true → btw 0 m ((mets L).length - 1) = true → RdI W W.heap.size A' (cum (mets L)) → ∃ b o k, m = (k : Nat) ∧ A' = some ⟨b, o, none⟩ ∧ W.cell? ⟨b, o + k, none⟩ = some (.int .i64 (ix (cum (mets L)) k)) ∧ W.cell? ⟨b, o + (k + 1), none⟩ = some (.int .i64 (ix (cum (mets L)) k + ix (mets L) m.toNat)) ∧ k + 1 < (cum (mets L)).length ∧ 0 ≤ ix (cum (mets L)) k ∧ ix (cum (mets L)) k ≤ 60000 ∧ 0 ≤ ix (mets L) m.toNat ∧ ix (mets L) m.toNat ≤ 100 ∧ k ≤ 600) := by
    intro W A' hv hb hR
    obtain ⟨h1, h2⟩ := btw_iff.1 hb
    obtain ⟨k, rfl⟩ := Int.eq_ofNat_of_zero_le h1
    have h600 := mets_len600 (okL_of_vld hv)
    have hcl := cum_length (mets L)
    obtain ⟨b, o, rfl, _, c1⟩ := hR.at_ (k := k) (by omega)
    obtain ⟨b', o', he, _, c2⟩ := hR.at_ (k := k + 1) (by omega)
    injection he with he
    injection he with e1 e2 _
    subst e1; subst e2
    have hb1 := ice_bounds (okL_of_vld hv) k
    have hb2 := ix_bounds (okL_of_vld hv) k
    rw [cum_succ _ _ (by omega)] at c2
    simp only [Int.toNat_natCast]
    exact ⟨b, o, k, rfl, rfl, c1, c2, by omega, hb1.1, hb1.2, hb2.1, hb2.2, by omega⟩
  clear hr hr1
  generalize val (gate (vld L) (btw 0 m ((mets L).length - 1))) (ix (mets L) m.toNat) = rv at *
  generalize hrt : btw 0 m ((mets L).length - 1) = rt at *
  clear hrt
  generalize ix (mets L) m.toNat = x at *
  generalize L.length = n at *
  go_enter Try.func22, Try.ntmps22
  go_wp2_with (go_at_call 65; refine HO.out.mono ?_; rintro e w1 ⟨hB, ⟨hg, rfl⟩ | ⟨hv, hrt, A', c', rfl, hR⟩⟩)
  · go_ret2
    exact ⟨H1.out hg, (below_alloc _ _).trs hB⟩
  · obtain ⟨b, o, k, hm, rfl, c1, c2, hk, h1, h2, h3, h4, h5⟩ := HC.out w1 _ hv hrt hR
    have hbx : w1.cell? ⟨w.heap.size, 0, none⟩ = some (.int .i64 k) := by rw [hB.cell (p := ⟨w.heap.size, 0, none⟩) (by simp), ← hm]; exact cell_one _ _ _
    have HV := Lib.hid (And.intro hv hrt)
    have hlt : ((k : Int) + 1) < ((cum (mets L)).length : Int) := by omega
    have hw1 : IntKind.i64.wrap ((k : Int) + 1) = (k : Int) + 1 := IntWalk.i64_in _ (by omega)
    have hw2 : IntKind.i64.wrap x = x := IntWalk.i64_in _ (by omega)
    have hk0 : 0 ≤ (k : Int) + 1 := by omega
    have hk1 : ((k : Int) + 1).toNat = k + 1 := by omega
    generalize ix (cum (mets L)) k = y at *
    generalize (cum (mets L)).length = q at *
    clear hv hrt hR hm hk
    go_quiet (fail)
    go_wp2
    go_ret2
    exact ⟨(ret_ii (by omega) rfl).trans (H2.out HV.out.1 HV.out.2), ((below_alloc _ _).trs hB).drewsN _⟩

theorem refDim_any (A : Option Addr) (c : Nat) (L : List (Int × Int)) (m : Int) (w : World) (hr : RdP w w.heap.size A L) (hl : L.length ≤ 1125899906842624) :
    Calls Try.prog 23 #[.slice A L.length c, .int .i64 m] w fun e w' => e = .returned (.tuple #[.int .i64 (val (gate (vld L) (btw 0 m ((mets L).length - 1))) (ix (mets L) m.toNat)), .int .i64 (gate (vld L) (btw 0 m ((mets L).length - 1)))]) ∧ Below w.heap.size w w' := by
  have HV := Lib.hid (refValid_any A c L w hr hl)
  cases hv : vld L
  · rw [hv] at HV
    clear hr
    have HVV := Lib.hid hv; clear hv
    go_enter Try.func23, Try.ntmps23
    go_wp2_with (go_at_call 21; refine HV.out.mono ?_; rintro e w' ⟨rfl, rfl⟩)
    go_ret2
    exact ⟨rfl, Below.refl _ _⟩
  · have HM := Lib.hid (Metres_any A c L w hr (okL_of_vld hv))
    have h600 := mets_len600 (okL_of_vld hv)
    rw [hv] at HV
    have HVV := Lib.hid hv; clear hv hr
    cases hb : btw 0 m ((mets L).length - 1)
    · go_enter Try.func23, Try.ntmps23
      go_wp2_with (first
        | (go_at_call 21; refine HV.out.mono ?_; rintro e w' ⟨rfl, rfl⟩)
        | (go_at_call 28; refine HM.out.mono ?_; rintro e w1 ⟨hB, A', c', rfl, hR⟩)
        | (go_at_call 64; refine (within_any _ _ _ _).mono ?_; rintro e w' ⟨rfl, rfl⟩))
      go_ret2
      exact ⟨rfl, hB⟩
    · obtain ⟨h1, h2⟩ := btw_iff.1 hb
      obtain ⟨k, rfl⟩ := Int.eq_ofNat_of_zero_le h1
      have hk : k < (mets L).length := by omega
      simp only [Int.toNat_natCast]
      clear h1 h2
      go_enter Try.func23, Try.ntmps23
      go_wp2_with (first
        | (go_at_call 21; refine HV.out.mono ?_; rintro e w' ⟨rfl, rfl⟩)
        | (go_at_call 28; refine HM.out.mono ?_; rintro e w1 ⟨hB, A', c', rfl, hR⟩; obtain ⟨b, o, rfl, _, c1⟩ := hR.at_ hk)
        | (go_at_call 64; refine (within_any _ _ _ _).mono ?_; rintro e w' ⟨rfl, rfl⟩))
      go_ret2
      exact ⟨rfl, hB⟩

/-- a column's loss at depths of the ice -/
theorem loss_col (A : Option Addr) (c : Nat) (L : List (Int × Int)) (x y : Int) (w : World) (hr : RdI w w.heap.size A (cum (mets L))) (hv : vld L = true) (hb : isB (cum (mets L)).length [x, y] = true) :
    Calls Try.prog 69 #[.slice A (cum (mets L)).length c, .int .i64 x, .int .i64 y] w fun e w' => e = .returned (.int .i64 (lossI (cum (mets L)) x.toNat y.toNat)) ∧ ∃ n, w' = w.drewN n := by
  have h := isB_two.1 hb
  have h600 := mets_len600 (okL_of_vld hv)
  have hcl := cum_length (mets L)
  exact loss_any A c _ x y w hr (by omega) (by omega) (by omega) (by omega) (by omega) (ice_bounds (okL_of_vld hv))

def LossR (L : List (Int × Int)) (x y : Int) : Bool := isB (cum (mets L)).length [x, y]
def LossV (L : List (Int × Int)) (x y : Int) : Int := lossI (cum (mets L)) x.toNat y.toNat
def LossE (L : List (Int × Int)) (x y : Int) : Int := gate (vld L) (LossR L x y)

theorem Loss_any (A : Option Addr) (c : Nat) (L : List (Int × Int)) (x y : Int) (w : World) (hr : RdP w w.heap.size A L) (hl : L.length ≤ 1125899906842624) :
    Calls Try.prog 24 #[.slice A L.length c, .int .i64 x, .int .i64 y] w fun e w' => e = .returned (.tuple #[.int .i64 (val (LossE L x y) (LossV L x y)), .int .i64 (LossE L x y)]) ∧ Below w.heap.size w w' := by
  have hB0 : Below w.heap.size w ((w.alloc (.cells #[.int .i64 x] 3)).alloc (.cells #[.int .i64 y] 3)) := (below_alloc _ _).trs (below_alloc _ _)
  have HO := Lib.hid (opened_any 67 #[.pointer (some ⟨w.heap.size, 0, none⟩), .pointer (some ⟨w.heap.size + 1, 0, none⟩)] A c L (LossR L x y) ((w.alloc (.cells #[.int .i64 x] 3)).alloc (.cells #[.int .i64 y] 3)) (hr.on hB0) hl (enters_of Try.func67 (by kernel_rfl) rfl) (by
    intro hv W A' c' hB hR
    have h600 := mets_len600 (okL_of_vld hv)
    exact Loss1_any A' (cum (mets L)).length c' w.heap.size (w.heap.size + 1) x y W (by rw [cum_length]; omega) (keep21 hB) (keep22 hB)))
  clear hr
  go_enter Try.func24, Try.ntmps24
  go_wp2_with (first
    | (go_at_call 65; refine HO.out.mono ?_; rintro e w1 ⟨hB, h⟩; have hB1 := bcell hB; rcases h with ⟨hg, rfl⟩ | ⟨hv, hrt, A', c', rfl, hR⟩)
    | (go_at_call 69; refine (loss_col A' c' L x y _ hR hv hrt).mono ?_; rintro e w2 ⟨rfl, nq, rfl⟩))
  all_goals go_ret2
  · exact ⟨ret_no hg rfl, hB0.trs hB⟩
  · exact ⟨ret_err hv hrt rfl rfl, (hB0.trs hB).drewsN _⟩
end Go.Proofs.Ytnodeooammplfaa
