/- Walks over package ice and its reference: Lit, Down, Up, Middle. -/
import Derived.Test.YtnodeooammplfaaIceJ
namespace Go.Proofs.Ytnodeooammplfaa
set_option linter.unusedVariables false
open Go.RowKit

theorem isB_one {n : Nat} {x : Int} : isB (n + 1) [x] = btw 0 x n := by
  rw [Bool.eq_iff_iff]; simp [isB, btw]
def LitR (L : List (Int × Int)) (a s : Int) : Bool := btw 0 a (mets L).length && btw 0 s 100000
def LitE (L : List (Int × Int)) (a s : Int) : Int := gate (vld L) (LitR L a s)
def LitV (L : List (Int × Int)) (a s : Int) : Value := .tuple #[.int .i64 (val (LitE L a s) (up (mets L) a.toNat s)), .int .i64 (val (LitE L a s) (dn (mets L) a.toNat s)), .int .i64 (LitE L a s)]
theorem LitV_no {L : List (Int × Int)} {a s : Int} (h : LitE L a s ≠ 0) : LitV L a s = .tuple #[.int .i64 0, .int .i64 0, .int .i64 (LitE L a s)] := by
  rw [LitV, val_no h, val_no h]
theorem LitV_ok {L : List (Int × Int)} {a s : Int} (h : LitE L a s = 0) : LitV L a s = .tuple #[.int .i64 (up (mets L) a.toNat s), .int .i64 (dn (mets L) a.toNat s), .int .i64 0] := by
  rw [LitV, val_ok h, val_ok h, h]

theorem Lit1_any (A : Option Addr) (n c b0 b1 : Nat) (x s : Int) (w : World) (hn : n ≤ 1000000) (hc : w.cell? ⟨b0, 0, none⟩ = some (.int .i64 x)) (hc1 : w.cell? ⟨b1, 0, none⟩ = some (.int .i64 s)) (h1 : b1 < w.heap.size) :
    Calls Try.prog 74 #[.slice A n c, .pointer (some ⟨b0, 0, none⟩), .pointer (some ⟨b1, 0, none⟩)] w fun e w' => e = .returned (.bool (isB n [x] && btw 0 s 100000)) ∧ Below w.heap.size w w' := by
  have H := Lib.hid (is_any A (some ⟨w.heap.size, 0, none⟩) n c 1 [x] (w.alloc (.cells #[.int .i64 x] 3)) hn (RdI.one w x 3) (by simp))
  have HS := Lib.hid (isStrength_any s)
  have hb := below_alloc w (.cells #[.int .i64 x] 3)
  have hc2 := hc1
  rw [← hb.cell h1] at hc2
  cases hx : isB n [x]
  all_goals
    rw [hx] at H
    clear hx
    go_enter Try.func74, Try.ntmps74
    go_wp2_with (first
      | (go_at_call 68; refine H.out.mono ?_; rintro e w' ⟨rfl, rfl⟩)
      | (go_at_call 75; refine (HS.out _).mono ?_; rintro e w' ⟨rfl, rfl⟩))
    go_ret
    exact ⟨rfl, hb⟩

theorem keepL {w1 W W' : World} {b b' o o' : Nat} {x y : Value} (h : Below W.heap.size W W') (hs : W.cell? ⟨b, o, none⟩ = some x ∧ W.cell? ⟨b', o', none⟩ = some y ∧ b' < W.heap.size ∧ Below w1.heap.size w1 W) (hb : b ≤ b' := by omega) :
    W'.cell? ⟨b, o, none⟩ = some x ∧ W'.cell? ⟨b', o', none⟩ = some y ∧ b' < W'.heap.size ∧ Below w1.heap.size w1 W' :=
  ⟨(h.cell (p := ⟨b, o, none⟩) (Nat.lt_of_le_of_lt hb hs.2.2.1)).trans hs.1, (h.cell (p := ⟨b', o', none⟩) hs.2.2.1).trans hs.2.1, Nat.lt_of_lt_of_le hs.2.2.1 h.size, hs.2.2.2.trs h⟩

theorem Lit_any (A : Option Addr) (c : Nat) (L : List (Int × Int)) (x s : Int) (w : World) (hr : RdP w w.heap.size A L) (hl : L.length ≤ 1125899906842624) :
    Calls Try.prog 34 #[.slice A L.length c, .int .i64 x, .int .i64 s] w fun e w' => e = .returned (LitV L x s) ∧ Below w.heap.size w w' := by
  have hB0 : Below w.heap.size w ((w.alloc (.cells #[.int .i64 x] 3)).alloc (.cells #[.int .i64 s] 3)) := (below_alloc _ _).trs (below_alloc _ _)
  have HO := Lib.hid (opened_any 74 #[.pointer (some ⟨w.heap.size, 0, none⟩), .pointer (some ⟨w.heap.size + 1, 0, none⟩)] A c L (LitR L x s) ((w.alloc (.cells #[.int .i64 x] 3)).alloc (.cells #[.int .i64 s] 3)) (hr.on hB0) hl (enters_of Try.func74 (by kernel_rfl) rfl) (by
    intro hv W A' c' hB hR
    have h600 := mets_len600 (okL_of_vld hv)
    have hs := hB.size
    simp only [World.size_alloc] at hs
    have := Lit1_any A' (cum (mets L)).length c' w.heap.size (w.heap.size + 1) x s W (by rw [cum_length]; omega) (keep21 hB) (keep22 hB) (by omega)
    rw [cum_length, isB_one] at this
    rw [cum_length]
    exact this))
  have HV1 : Hid (gate (vld L) (LitR L x s) ≠ 0 → LitV L x s = .tuple #[.int .i64 0, .int .i64 0, .int .i64 (gate (vld L) (LitR L x s))]) := fun h => LitV_no h
  have HD : Hid (vld L = true → LitR L x s = true → ∃ a : Nat, x = a ∧ LitV L x s = .tuple #[.int .i64 (up (mets L) a s), .int .i64 (dn (mets L) a s), .int .i64 0] ∧
      (∀ W A' c', RdI W W.heap.size A' (cum (mets L)) → Calls Try.prog 76 #[.slice A' (cum (mets L)).length c', .int .i64 a, .int .i64 s] W fun e w' => e = .returned (.int .i64 (up (mets L) a s)) ∧ Below W.heap.size W w') ∧
      (∀ W A' c', RdI W W.heap.size A' (cum (mets L)) → Calls Try.prog 77 #[.slice A' (cum (mets L)).length c', .int .i64 a, .int .i64 s] W fun e w' => e = .returned (.int .i64 (dn (mets L) a s)) ∧ Below W.heap.size W w')) := by
    intro hv hR
    have hok := okL_of_vld hv
    have h600 := mets_len600 hok
    have hg : LitE L x s = 0 := gate_ok hv hR
    have hR' := hR
    unfold LitR at hR'
    rw [Bool.and_eq_true, btw_iff, btw_iff] at hR'
    obtain ⟨a, rfl⟩ := Int.eq_ofNat_of_zero_le hR'.1.1
    exact ⟨a, rfl, by rw [LitV_ok hg, Int.toNat_natCast], fun W A' c' h => up_any A' c' (mets L) a s W h (mets_mem hok) h600 (by omega) (by omega), fun W A' c' h => down_any A' c' (mets L) a s W h (mets_mem hok) h600 (by omega) (by omega) (by omega)⟩
  clear hr
  generalize LitV L x s = V at *
  go_enter Try.func34, Try.ntmps34
  go_wp2_with (go_at_call 65; refine HO.out.mono ?_; rintro e w1 ⟨hB, h⟩; have hB1 := bcell hB; rcases h with ⟨hg, rfl⟩ | ⟨hv, hrt, A', c', rfl, hR⟩)
  · refine bodyPost_ret (v := .tuple #[.int .i64 0, .int .i64 0, .int .i64 (gate (vld L) (LitR L x s))]) (by simp [results, Try.results34, go_sem]) rfl ⟨by rw [HV1.out hg], hB0.trs hB⟩
  · obtain ⟨a, rfl, hV, hU, hD⟩ := HD.out hv hrt
    have HVV := Lib.hid hV
    have HU := Lib.hid hU
    have HDD := Lib.hid hD
    have HR := Lib.hid hR
    have k1 := keep21 hB
    have k2 := keep22 hB
    have hsz : w.heap.size + 1 < w1.heap.size := by have := hB.size; simp at this; omega
    clear HD HV1 HO hV hU hD hR hv hrt hB1
    have HB := Lib.hid (hB0.trs hB); clear hB hB0
    generalize (cum (mets L)).length = n at *
    generalize up (mets L) a s = u at *
    generalize dn (mets L) a s = v at *
    have hs1 : w.heap.size < w1.heap.size := by omega
    go_region_held3 (fun w' => w'.cell? ⟨w.heap.size, 0, none⟩ = some (.int .i64 (a : Int)) ∧ w'.cell? ⟨w.heap.size + 1, 0, none⟩ = some (.int .i64 s) ∧ w.heap.size + 1 < w'.heap.size ∧ Below w1.heap.size w1 w') (first | exact keepL h2 (by assumption) | exact ⟨k1, k2, hsz, (Below.refl _ _).drewsN 1⟩ | go_keep) (first | (go_at_call 76; refine (HU.out _ _ _ (HR.out.on (‹_ ∧ _ ∧ _ ∧ Below w1.heap.size w1 _›).2.2.2)).mono ?_; rintro e w2 ⟨rfl, h2⟩) | (go_at_call 77; refine (HDD.out _ _ _ (HR.out.on (‹_ ∧ _ ∧ _ ∧ Below w1.heap.size w1 _›).2.2.2)).mono ?_; rintro e w2 ⟨rfl, h2⟩))
    all_goals
      have HE := Lib.hid (‹_ ∧ _ ∧ _ ∧ Below w1.heap.size w1 _›).2.2.2
      go_wp2_with fail
      refine bodyPost_ret (v := .tuple #[.int .i64 u, .int .i64 v, .int .i64 0]) (by simp [results, Try.results34, go_sem]) rfl ⟨by rw [HVV.out], HB.out.trs HE.out⟩
end Go.Proofs.Ytnodeooammplfaa
