/- Walks over alert: Several; Machines. -/
import Derived.Test.YtdafiblnanpiiaaAlSv
import Derived.Test.YtdafiblnanpiiaaAlLawM
namespace Go.Proofs.Ytdafiblnanpiiaa
open Go.RowKit
set_option linter.unusedSimpArgs false
set_option linter.unusedVariables false

def SvE (L : List (Int × Int × Int)) (k : Int) : Int := gateT (vldT L) (btw 1 k 4)
noncomputable def SvV (L : List (Int × Int × Int)) (k : Int) : Value := .tuple #[.bool (decide (SvE L k = 0) && sevB L k), .int .i64 (SvE L k)]
theorem SvV_ok {L : List (Int × Int × Int)} {k : Int} (hv : vldT L = true) (hk : btw 1 k 4 = true) : SvV L k = .tuple #[.bool (sevB L k), .int .i64 0] := by
  have e : SvE L k = 0 := by unfold SvE; rw [hv, hk]; rfl
  unfold SvV; rw [e]; rfl
theorem Several_any (A : Option Addr) (c : Nat) (L : List (Int × Int × Int)) (k : Int) (w : World) (hr : RdT w w.heap.size A L) (hl : L.length ≤ 1125899906842624) :
    Calls Try.prog 27 #[.slice A L.length c, .int .i64 k] w fun e w' => e = .returned (SvV L k) ∧ Below w.heap.size w w' := by
  have HVa := Lib.hid (Valid_any A c L w hr hl)
  have HD := Lib.hid (fun (hv : vldT L = true) (hk : btw 1 k 4 = true) W (hW : Below w.heap.size w W) => several_any A c L k W (hr.on hW) (okT_of hv) (btw_iff.1 hk))
  have HV : Hid (SvV L k = .tuple #[.bool (decide (SvE L k = 0) && sevB L k), .int .i64 (SvE L k)]) := Lib.hid rfl
  have HE : Hid (SvE L k = gateT (vldT L) (btw 1 k 4)) := Lib.hid rfl
  clear hr
  generalize SvV L k = V at *
  generalize SvE L k = E at *
  generalize sevB L k = sv at *
  generalize L.length = n at *
  cases hv : vldT L
  · rw [hv] at HVa HE
    have HF : Hid (V = .tuple #[.bool false, .int .i64 80]) := Lib.hid (by rw [HV.out, HE.out]; rfl)
    clear HD hv HV HE
    go_enter Try.func27, Try.ntmps27
    go_wp2_with (go_at_call 49; refine HVa.out.mono ?_; rintro e w1 ⟨rfl, h1⟩)
    go_ret2
    exact ⟨by rw [HF.out]; first | done | rfl, h1⟩
  · have HD1 := Lib.hid (HD.out hv)
    rw [hv] at HVa HE
    cases hk : btw 1 k 4
    · rw [hk] at HE
      have HK := Lib.hid hk
      have HF : Hid (V = .tuple #[.bool false, .int .i64 2]) := Lib.hid (by rw [HV.out, HE.out]; rfl)
      clear HD hv hk HV HE HD1
      go_enter Try.func27, Try.ntmps27
      go_wp2_with (first | (go_at_call 49; refine HVa.out.mono ?_; rintro e w1 ⟨rfl, h1⟩) | (go_at_call 70; (with_reducible refine (between_any _ _ _ _).mono ?_); rintro e w' ⟨rfl, rfl⟩; rw [HK.out]))
      go_ret2
      exact ⟨by rw [HF.out]; first | done | rfl, h1⟩
    · have HD2 := Lib.hid (HD1.out hk)
      rw [hk] at HE
      have HK := Lib.hid hk
      have HF : Hid (V = .tuple #[.bool sv, .int .i64 0]) := Lib.hid (by rw [HV.out, HE.out]; rfl)
      clear HD hv hk HV HE HD1
      go_enter Try.func27, Try.ntmps27
      go_wp2_with (first | (go_at_call 49; refine HVa.out.mono ?_; rintro e w1 ⟨rfl, h1⟩) | (go_at_call 70; (with_reducible refine (between_any _ _ _ _).mono ?_); rintro e w' ⟨rfl, rfl⟩; rw [HK.out]) | (go_at_call 71; refine (HD2.out _ h1).mono ?_; rintro e w2 ⟨rfl, h2⟩))
      go_ret2
      exact ⟨by rw [HF.out]; first | done | rfl, h1.trs h2⟩

/-- the fewest machines that do all; 0: more than 4 -/
noncomputable def mac (L : List (Int × Int × Int)) : Nat := if sevB L 1 then 1 else if sevB L 2 then 2 else if sevB L 3 then 3 else if sevB L 4 then 4 else 0
theorem mac_le (L : List (Int × Int × Int)) : mac L ≤ 4 := by
  unfold mac; repeat (first | omega | split)
theorem sevB_mono {L : List (Int × Int × Int)} {k k' : Int} (h : sevB L k = true) (hk : k ≤ k') : sevB L k' = true := sevB_iff.2 ((sevB_iff.1 h).more hk)
theorem sevB_mac (L : List (Int × Int × Int)) {k : Nat} (h1 : 1 ≤ k) (h2 : k ≤ 4) : sevB L k = decide (1 ≤ mac L ∧ mac L ≤ k) := by
  have m2 := @sevB_mono L 1 2
  have m3 := @sevB_mono L 2 3
  have m4 := @sevB_mono L 3 4
  rcases (show k = 1 ∨ k = 2 ∨ k = 3 ∨ k = 4 by omega) with rfl | rfl | rfl | rfl <;>
  (unfold mac
   show sevB L _ = _
   norm_cast
   cases e1 : sevB L 1 <;> cases e2 : sevB L 2 <;> cases e3 : sevB L 3 <;> cases e4 : sevB L 4 <;> rw [e1, e2] at m2 <;> rw [e2, e3] at m3 <;> rw [e3, e4] at m4 <;> simp_all)
noncomputable def MachV (L : List (Int × Int × Int)) : Value := if vldT L then .tuple #[.int .i64 (mac L), .int .i64 (if mac L = 0 then 5 else 0)] else .tuple #[.int .i64 0, .int .i64 80]

set_option maxHeartbeats 4000000 in
theorem Machines_any (A : Option Addr) (c : Nat) (L : List (Int × Int × Int)) (w : World) (hr : RdT w w.heap.size A L) (hl : L.length ≤ 1125899906842624) :
    Calls Try.prog 29 #[.slice A L.length c] w fun e w' => e = .returned (MachV L) ∧ Below w.heap.size w w' := by
  have HVa := Lib.hid (Valid_any A c L w hr hl)
  have HD := Lib.hid (fun (hv : vldT L = true) (k : Nat) (hk : 1 ≤ k ∧ k ≤ 4) W (hW : Below w.heap.size w W) => several_any A c L k W (hr.on hW) (okT_of hv) (by omega))
  have HS := Lib.hid (fun k h1 h2 => sevB_mac L (k := k) h1 h2)
  have hm4 := mac_le L
  have HV : Hid (MachV L = if vldT L then .tuple #[.int .i64 (mac L), .int .i64 (if mac L = 0 then 5 else 0)] else .tuple #[.int .i64 0, .int .i64 80]) := Lib.hid rfl
  clear hr
  generalize MachV L = V at *
  generalize hm : mac L = m at *
  clear hm
  generalize L.length = n at *
  cases hv : vldT L
  · rw [hv] at HVa HV
    clear HD hv
    go_enter Try.func29, Try.ntmps29
    go_wp2_with (go_at_call 49; refine HVa.out.mono ?_; rintro e w1 ⟨rfl, h1⟩)
    go_ret2
    exact ⟨by rw [HV.out]; first | done | rfl, h1⟩
  · have HD1 := Lib.hid (HD.out hv)
    rw [hv, if_pos rfl] at HV
    rw [hv] at HVa
    clear HD hv
    go_enter Try.func29, Try.ntmps29
    go_wp2_with (go_at_call 49; refine HVa.out.mono ?_; rintro e w1 ⟨rfl, h1⟩)
    have HB1 := Lib.hid h1
    clear h1
    go_loopg [4] 5 (fun k t wr => ∃ j : Nat, t = .int .i64 j ∧ 1 ≤ j ∧ j ≤ 5 ∧ 5 - j ≤ k ∧ (m = 0 ∨ j ≤ m) ∧ Below w.heap.size w wr)
    case atStart => exact ⟨1, rfl, by omega, by omega, by omega, by omega, HB1.out⟩
    case round =>
      obtain ⟨j, rfl, hj1, hj5, hk, hjm, hB⟩ := hrel
      by_cases hlj : j ≤ 4
      · have HF := Lib.hid (HD1.out j ⟨hj1, hlj⟩ wr hB)
        rw [HS.out j hj1 hlj] at HF
        have hdj : decide ((j : Int) ≤ 4) = true := by rw [decide_eq_true_eq]; omega
        have HB := Lib.hid hB
        clear hB
        by_cases hq : 1 ≤ m ∧ m ≤ j
        · have hmj : m = j := by omega
          subst hmj
          rw [decide_eq_true hq] at HF
          have hm0 : ¬ m = 0 := by omega
          have HM0 := Lib.hid hm0
          clear hm0 hq hjm
          go_wp2_with (go_at_call 71; refine HF.out.mono ?_; rintro e w2 ⟨rfl, h2⟩)
          go_ret2
          exact ⟨by rw [HV.out, if_neg HM0.out]; first | done | rfl, HB.out.trs h2⟩
        · rw [decide_eq_false hq] at HF
          have HQ := Lib.hid hq
          have HJ := Lib.hid hjm
          clear hq hjm
          go_wp2_with (go_at_call 71; refine HF.out.mono ?_; rintro e w2 ⟨rfl, h2⟩)
          go_roundg (5 - (j + 1))
          case measure => omega
          case rel => exact ⟨j + 1, by go_num, by omega, by omega, by omega, by have := HQ.out; have := HJ.out; omega, HB.out.trs h2⟩
      · obtain rfl : j = 5 := by omega
        have hm0 : m = 0 := by omega
        subst hm0
        go_wp2
        go_ret2
        exact ⟨by rw [HV.out]; first | done | rfl, hB⟩
end Go.Proofs.Ytdafiblnanpiiaa
