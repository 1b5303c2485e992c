/- Walks over alert's reference: whether several machines do all; Several; Machines. -/
import Derived.Test.YtdafiblnanpiiaaAlPt
import Derived.Outline
namespace Go.Proofs.Ytdafiblnanpiiaa
open Go.RowKit
set_option linter.unusedSimpArgs false
set_option linter.unusedVariables false

theorem zeroHas : Try.zeroCells93 = (List.replicate 1200 (Value.bool false)).toArray := by kernel_rfl
noncomputable abbrev two (w : World) : World := (w.alloc (.cells Try.zeroCells93 93)).alloc (.cells Try.zeroCells68 68)
theorem two_below (w : World) : Below w.heap.size w (two w) := (below_alloc w _).alloc (by simp) _
theorem two_has (w : World) : CellsR w.heap.size 1200 (hasF (fun _ _ => false)) (two w) := by
  have b0 := Box.new w 93 Try.zeroCells93
  exact CellsR.of_box (b0.alloc _) _ (fun q hq => by rw [zeroHas]; exact fnd_at 1200 q hq)
theorem two_used (w : World) (n : Nat) : CellsR (w.heap.size + 1) 100 (intF (colS n (fun _ _ => false))) (two w) := by
  have b1 := Box.new (w.alloc (.cells Try.zeroCells93 93)) 68 Try.zeroCells68
  rw [show (w.alloc (.cells Try.zeroCells93 93)).heap.size = w.heap.size + 1 by simp] at b1
  refine (CellsR.of_box b1 (fun _ => .int .i64 0) (fun q hq => by rw [zeroBy]; exact by_at 100 q hq)).congr (fun q _ => ?_)
  show Value.int .i64 0 = Value.int .i64 _
  rw [show colS n (fun _ _ => false) q = 0 from sm_false n]

set_option maxRecDepth 100000 in
set_option maxHeartbeats 4000000 in
theorem refseveral_any (A : Option Addr) (c : Nat) (L : List (Int × Int × Int)) (K : Int) (w : World) (hr : RdT w w.heap.size A L) (hok : okT L) (hK : 1 ≤ K ∧ K ≤ 4) :
    Calls Try.prog 72 #[.slice A L.length c, .int .i64 K] w fun e w' => e = .returned (.bool (sevB L K)) ∧ Below w.heap.size w w' := by
  have HR := Lib.hid hr
  have HOK := Lib.hid hok
  have hn12 := hok.1.2
  have HPT := Lib.hid (put_any w A c L K w.heap.size (w.heap.size + 1) hr hok hK (Nat.le_refl _) (by omega) (by omega))
  unfold PutQ at HPT
  have HRL := Lib.hid (fun i r hi hr j hj => rowT_le (L := L) hok (i := i) (r := r) hi hr j hj)
  have HYE : Hid ((∃ H, Asg L K H ∧ ∀ j, j < L.length → rowS H j = rowT L L.length 0 j) → sevB L K = true) := Lib.hid (fun ⟨H, h1, h2⟩ => sevB_iff.2 ⟨H, h1, fun j hj => by rw [h2 j hj]; unfold rowT; rw [if_pos hj]⟩)
  have HB0 := Lib.hid (two_below w)
  have HS0 := Lib.hid (And.intro (two_has w) (two_used w L.length))
  have HA0 := Lib.hid (asg_none L hK.1)
  clear hr hok
  generalize sevB L K = sv at *
  unfold two at HB0 HS0
  go_enter Try.func72, Try.ntmps72
  go_wp2
  generalize (w.alloc (.cells Try.zeroCells93 93)).alloc (.cells Try.zeroCells68 68) = W0 at *
  go_loopg [7, 8] L.length (fun k x7 x8 wi => ∃ (i : Nat) (H : Nat → Nat → Bool), x7 = .int .i64 i ∧ i ≤ L.length ∧ L.length - i ≤ k ∧ Below w.heap.size w wi ∧ CellsR w.heap.size 1200 (hasF H) wi ∧ CellsR (w.heap.size + 1) 100 (intF (colS L.length H)) wi ∧ Aside (Asg L K H ∧ ∀ j, j < L.length → rowS H j = rowT L i 0 j))
  case atStart => exact ⟨0, _, rfl, by omega, by omega, HB0.out, HS0.out.1, HS0.out.2, (⟨HA0.out, fun j _ => by rw [row_none]; unfold rowT; rw [if_neg (by omega)]; split <;> rfl⟩ : Asg L K (fun _ _ => false) ∧ ∀ j, j < L.length → rowS (fun _ _ => false) j = rowT L 0 0 j)⟩
  case round =>
    obtain ⟨i, H, rfl, hi, hki, hB, hH, hU, HA⟩ := hrel
    by_cases hlt : i < L.length
    · obtain ⟨bb, o, rfl, hbb, c1, c2, c3⟩ := HR.out.at_ (k := i) hlt
      have hlt2 : (i : Int) < (L.length : Int) := by omega
      have hoki := HOK.out.2 i hlt
      have HX := Lib.hid (And.intro hB (And.intro hH hU))
      have hz0 : 1 ≤ tc L i := by omega
      have hz1 : tc L i ≤ 100 := by omega
      have HI := Lib.hid hlt
      have HKI := Lib.hid hki
      have HC3 := Lib.hid (fun W' (h : Below w.heap.size w W') => (h.cell (p := ⟨bb, o + i * 3 + 2, none⟩) hbb).trans c3)
      obtain ⟨z, hz⟩ : ∃ z : Int, z = tc L i := ⟨_, rfl⟩
      rw [← hz] at hz0 hz1 HC3
      have HZE := Lib.hid hz
      clear hB hH hU hoki hz c1 c2 c3
      go_wp2
      go_loopg [8] 100 (fun k t wi => ∃ (r : Nat) (H : Nat → Nat → Bool), t = .int .i64 r ∧ (r : Int) ≤ z ∧ 100 - r ≤ k ∧ Below w.heap.size w wi ∧ CellsR w.heap.size 1200 (hasF H) wi ∧ CellsR (w.heap.size + 1) 100 (intF (colS L.length H)) wi ∧ Aside (Asg L K H ∧ ∀ j, j < L.length → rowS H j = rowT L i r j))
      case atStart => exact ⟨0, H, rfl, by omega, by omega, HX.out.1, HX.out.2.1, HX.out.2.2, (HA.out : Asg L K H ∧ ∀ j, j < L.length → rowS H j = rowT L i 0 j)⟩
      case round =>
        obtain ⟨r, H2, rfl, hr, hkr, hB, hH, hU, HA2⟩ := hrel
        have c3 := HC3.out wr hB
        by_cases hlr : (r : Int) < z
        · have hlr2 : decide ((r : Int) < z) = true := by rw [decide_eq_true_eq]; exact hlr
          have HF := Lib.hid (HPT.out i H2 wr HI.out HA2.out.1 (fun j hj => by rw [HA2.out.2 j hj]; exact HRL.out i r HI.out (by rw [← HZE.out]; exact hr) j hj) (by rw [HA2.out.2 i HI.out]; unfold rowT; rw [if_neg (by omega), if_pos rfl, ← HZE.out]; exact hlr) hB hH hU)
          have HLR := Lib.hid hlr
          clear hB hH hU hlr
          go_wp2_with (go_at_call 91; refine HF.out.mono ?_; rintro e w5 ⟨hB5, H5, hH5, hU5, ⟨rfl, ha5, hr5⟩ | ⟨rfl, hs5⟩⟩)
          · have HR5 := Lib.hid (And.intro hB5 (And.intro hH5 (And.intro hU5 (And.intro ha5 (fun j (hj : j < L.length) => (hr5 j).trans (show rowS H2 j + _ = rowT L i ((r + 1 : Nat) : Int) j by rw [HA2.out.2 j hj, rowT_add]; push_cast; rfl))))))
            clear hB5 hH5 hU5 ha5 hr5
            go_roundg (100 - (r + 1))
            case measure => have := HLR.out; omega
            case rel => exact ⟨r + 1, H5, by go_num, by have := HLR.out; omega, by omega, HR5.out.1, HR5.out.2.1, HR5.out.2.2.1, (HR5.out.2.2.2 : Asg L K H5 ∧ ∀ j, j < L.length → rowS H5 j = rowT L i ((r + 1 : Nat) : Int) j)⟩
          · clear hH5 hU5
            go_ret
            exact ⟨ret_bool hs5.symm, hB5⟩
        · have hlr2 : decide ((r : Int) < z) = false := by rw [decide_eq_false_iff_not]; exact hlr
          have hrz : (r : Int) = z := by omega
          have HR6 := Lib.hid (And.intro hB (And.intro hH (And.intro hU (And.intro HA2.out.1 (fun j (hj : j < L.length) => (show rowS H2 j = rowT L (i + 1) 0 j by rw [HA2.out.2 j hj, hrz, HZE.out, rowT_next]))))))
          clear hB hH hU hlr hrz
          go_wp2
          go_roundg (L.length - (i + 1))
          case measure => have := HKI.out; have := HI.out; omega
          case rel => exact ⟨i + 1, H2, by go_num, by have := HI.out; omega, by omega, HR6.out.1, HR6.out.2.1, HR6.out.2.2.1, (HR6.out.2.2.2 : Asg L K H2 ∧ ∀ j, j < L.length → rowS H2 j = rowT L (i + 1) 0 j)⟩
    · obtain rfl : i = L.length := by omega
      have HE := Lib.hid (HYE.out ⟨H, HA.out⟩)
      have HB2 := Lib.hid hB
      clear hB hH hU
      go_wp2
      go_ret
      exact ⟨ret_bool HE.out.symm, HB2.out⟩

theorem refSeveral_any (A : Option Addr) (c : Nat) (L : List (Int × Int × Int)) (k : Int) (w : World) (hr : RdT w w.heap.size A L) (hl : L.length ≤ 1125899906842624) :
    Calls Try.prog 28 #[.slice A L.length c, .int .i64 k] w fun e w' => e = .returned (SvV L k) ∧ Below w.heap.size w w' := by
  have HVa := Lib.hid (refValid_any A c L w hr hl)
  have HD := Lib.hid (fun (hv : vldT L = true) (hk : btw 1 k 4 = true) W (hW : Below w.heap.size w W) => refseveral_any A c L k W (hr.on hW) (okT_of hv) (btw_iff.1 hk))
  have HV : Hid (SvV L k = .tuple #[.bool (decide (SvE L k = 0) && sevB L k), .int .i64 (SvE L k)]) := Lib.hid rfl
  have HE : Hid (SvE L k = gateT (vldT L) (btw 1 k 4)) := Lib.hid rfl
  clear hr
  generalize SvV L k = V at *
  generalize SvE L k = E at *
  generalize sevB L k = sv at *
  generalize L.length = n at *
  cases hv : vldT L
  · rw [hv] at HVa HE
    have HF : Hid (V = .tuple #[.bool false, .int .i64 80]) := Lib.hid (by rw [HV.out, HE.out]; rfl)
    clear HD hv HV HE
    go_enter Try.func28, Try.ntmps28
    go_wp2_with (go_at_call 22; refine HVa.out.mono ?_; rintro e w1 ⟨rfl, h1⟩)
    go_ret2
    exact ⟨by rw [HF.out]; first | done | rfl, h1⟩
  · have HD1 := Lib.hid (HD.out hv)
    rw [hv] at HVa HE
    cases hk : btw 1 k 4
    · rw [hk] at HE
      have HK := Lib.hid hk
      have HF : Hid (V = .tuple #[.bool false, .int .i64 2]) := Lib.hid (by rw [HV.out, HE.out]; rfl)
      clear HD hv hk HV HE HD1
      go_enter Try.func28, Try.ntmps28
      go_wp2_with (first | (go_at_call 22; refine HVa.out.mono ?_; rintro e w1 ⟨rfl, h1⟩) | (go_at_call 63; (with_reducible refine (within_any _ _ _ _).mono ?_); rintro e w' ⟨rfl, rfl⟩; rw [HK.out]))
      go_ret2
      exact ⟨by rw [HF.out]; first | done | rfl, h1⟩
    · have HD2 := Lib.hid (HD1.out hk)
      rw [hk] at HE
      have HK := Lib.hid hk
      have HF : Hid (V = .tuple #[.bool sv, .int .i64 0]) := Lib.hid (by rw [HV.out, HE.out]; rfl)
      clear HD hv hk HV HE HD1
      go_enter Try.func28, Try.ntmps28
      go_wp2_with (first | (go_at_call 22; refine HVa.out.mono ?_; rintro e w1 ⟨rfl, h1⟩) | (go_at_call 63; (with_reducible refine (within_any _ _ _ _).mono ?_); rintro e w' ⟨rfl, rfl⟩; rw [HK.out]) | (go_at_call 72; refine (HD2.out _ h1).mono ?_; rintro e w2 ⟨rfl, h2⟩))
      go_ret2
      exact ⟨by rw [HF.out]; first | done | rfl, h1.trs h2⟩


set_option maxHeartbeats 4000000 in
theorem refMachines_any (A : Option Addr) (c : Nat) (L : List (Int × Int × Int)) (w : World) (hr : RdT w w.heap.size A L) (hl : L.length ≤ 1125899906842624) :
    Calls Try.prog 30 #[.slice A L.length c] w fun e w' => e = .returned (MachV L) ∧ Below w.heap.size w w' := by
  have HVa := Lib.hid (refValid_any A c L w hr hl)
  have HD := Lib.hid (fun (hv : vldT L = true) (k : Nat) (hk : 1 ≤ k ∧ k ≤ 4) W (hW : Below w.heap.size w W) => refseveral_any A c L k W (hr.on hW) (okT_of hv) (by omega))
  have HS := Lib.hid (fun k h1 h2 => sevB_mac L (k := k) h1 h2)
  have hm4 := mac_le L
  have HV : Hid (MachV L = if vldT L then .tuple #[.int .i64 (mac L), .int .i64 (if mac L = 0 then 5 else 0)] else .tuple #[.int .i64 0, .int .i64 80]) := Lib.hid rfl
  clear hr
  generalize MachV L = V at *
  generalize hm : mac L = m at *
  clear hm
  generalize L.length = n at *
  cases hv : vldT L
  · rw [hv] at HVa HV
    clear HD hv
    go_enter Try.func30, Try.ntmps30
    go_wp2_with (go_at_call 22; refine HVa.out.mono ?_; rintro e w1 ⟨rfl, h1⟩)
    go_ret2
    exact ⟨by rw [HV.out]; first | done | rfl, h1⟩
  · have HD1 := Lib.hid (HD.out hv)
    rw [hv, if_pos rfl] at HV
    rw [hv] at HVa
    clear HD hv
    go_enter Try.func30, Try.ntmps30
    go_wp2_with (go_at_call 22; refine HVa.out.mono ?_; rintro e w1 ⟨rfl, h1⟩)
    have HB1 := Lib.hid h1
    clear h1
    go_loopg [4] 5 (fun k t wr => ∃ j : Nat, t = .int .i64 j ∧ 1 ≤ j ∧ j ≤ 5 ∧ 5 - j ≤ k ∧ (m = 0 ∨ j ≤ m) ∧ Below w.heap.size w wr)
    case atStart => exact ⟨1, rfl, by omega, by omega, by omega, by omega, HB1.out⟩
    case round =>
      obtain ⟨j, rfl, hj1, hj5, hk, hjm, hB⟩ := hrel
      by_cases hlj : j ≤ 4
      · have HF := Lib.hid (HD1.out j ⟨hj1, hlj⟩ wr hB)
        rw [HS.out j hj1 hlj] at HF
        have hdj : decide ((j : Int) ≤ 4) = true := by rw [decide_eq_true_eq]; omega
        have HB := Lib.hid hB
        clear hB
        by_cases hq : 1 ≤ m ∧ m ≤ j
        · have hmj : m = j := by omega
          subst hmj
          rw [decide_eq_true hq] at HF
          have hm0 : ¬ m = 0 := by omega
          have HM0 := Lib.hid hm0
          clear hm0 hq hjm
          go_wp2_with (go_at_call 72; refine HF.out.mono ?_; rintro e w2 ⟨rfl, h2⟩)
          go_ret2
          exact ⟨by rw [HV.out, if_neg HM0.out]; first | done | rfl, HB.out.trs h2⟩
        · rw [decide_eq_false hq] at HF
          have HQ := Lib.hid hq
          have HJ := Lib.hid hjm
          clear hq hjm
          go_wp2_with (go_at_call 72; refine HF.out.mono ?_; rintro e w2 ⟨rfl, h2⟩)
          go_roundg (5 - (j + 1))
          case measure => omega
          case rel => exact ⟨j + 1, by go_num, by omega, by omega, by omega, by have := HQ.out; have := HJ.out; omega, HB.out.trs h2⟩
      · obtain rfl : j = 5 := by omega
        have hm0 : m = 0 := by omega
        subst hm0
        go_wp2
        go_ret2
        exact ⟨by rw [HV.out]; first | done | rfl, hB⟩
end Go.Proofs.Ytdafiblnanpiiaa
