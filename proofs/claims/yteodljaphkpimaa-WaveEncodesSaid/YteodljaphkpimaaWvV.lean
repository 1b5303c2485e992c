/- Walks over package wave and its reference: the reference's text of a plan; wide words. -/
import Derived.Test.YteodljaphkpimaaWvU
import Derived.Test.YteodljaphkpimaaLibRep
import Derived.Test.YteodljaphkpimaaLib3
namespace Go.Proofs.Yteodljaphkpimaa
open Go.RowKit Go.Shelf
set_option linter.unusedSimpArgs false
set_option linter.unusedVariables false
attribute [local go_sem] Oper.semAt_some

theorem okB_wid {k : Nat} (hk : k < 5) : okB (wid k) = true := by
  unfold okB
  rw [kxI_yes hk]
  simp
set_option maxRecDepth 100000 in
set_option maxHeartbeats 4000000 in
theorem refPlanT_any (A : Option Addr) (c : Nat) (A2 : Option Addr) (c2 : Nat) (ds ws : List Int) (kf : Nat → Nat) (w : World) (hr : RdI w w.heap.size A ds) (hr2 : RdI w w.heap.size A2 ws) (hl : ds.length ≤ 1000) (hlw : ws.length = ds.length)
    (hk : ∀ i, i < ds.length → kf i < 5 ∧ ix ws i = (wid (kf i) : Int) ∧ canD (wid (kf i)) (ix ds i) = true) :
    Calls Try.prog 33 #[.slice A ds.length c, .slice A2 ds.length c2] w fun e w' => e = .returned (.string ⟨(plT ds kf ds.length).toArray⟩) ∧ Below w.heap.size w w' := by
  have HR := Lib.hid hr
  have HR2 := Lib.hid hr2
  have HK := Lib.hid hk
  have hk5 : ∀ i, i < ds.length → kf i < 5 := fun i hi => (hk i hi).1
  have HNW := Lib.hid (fun i (hi : i ≤ ds.length) => nwP_lt hk5 hi)
  have HPL := Lib.hid (fun i (hi : i ≤ ds.length) => plT_le (ds := ds) hk5 hi)
  have HP0 : Hid (plT ds kf 0 = []) := Lib.hid rfl
  have HPS : Hid (∀ i, plT ds kf (i + 1) = plT ds kf i ++ (toT upK dnK (nwP kf i) (kf i) ++ wordB (wid (kf i)) (ix ds i))) := Lib.hid fun _ => rfl
  have HN0 : Hid (nwP kf 0 = 2) := Lib.hid rfl
  have HNS : Hid (∀ i, nwP kf (i + 1) = kf i) := Lib.hid fun _ => rfl
  have HKD := Lib.hid (fun k W (h : k < 5) => (by
    have := refKind_any (wid k) W
    rwa [okB_wid h, if_pos rfl, kxI_yes h] at this : Calls Try.prog 30 #[.int .i64 (wid k)] W fun e w' => e = .returned (.tuple #[.int .i64 (k : Int), .bool true]) ∧ w' = W))
  have HTO := Lib.hid (fun i k W (h1 : i < 5) (h2 : k < 5) => refTo_any i k W h1 h2)
  have HWD := Lib.hid (fun k d W (h : canD (wid k) d = true) => refWord_any (wid k) d W (okW_le (wid_ok k)) (by have := btw_iff.1 h; omega) (by have := btw_iff.1 h; omega))
  have HTL := Lib.hid (fun i k (h1 : i < 5) (h2 : k < 5) => toT_le h1 h2)
  clear hr hr2 hk hk5
  generalize plT ds kf = pl at *
  generalize nwP kf = nw at *
  generalize hT : toT upK dnK = T at *
  clear hT
  generalize hn : ds.length = n at *
  have HN := Lib.hid (And.intro hn hlw)
  clear hn hlw
  go_enter Try.func33, Try.ntmps33
  go_wp2
  go_loopg [5, 6, 13] n (fun gk v u t wr => ∃ i : Nat, t = .int .i64 i ∧ u = .int .i64 (nw i) ∧ v = .string ⟨(pl i).toArray⟩ ∧ i ≤ n ∧ n - i ≤ gk ∧ Below w.heap.size w wr)
  case atStart => exact ⟨0, rfl, by rw [HN0.out]; rfl, by rw [HP0.out], by omega, by omega, Below.refl _ _⟩
  case round =>
    obtain ⟨i, rfl, rfl, rfl, hi, hgk, hB⟩ := hrel
    by_cases hlt : i < n
    · obtain ⟨hk5, hws, hcan⟩ := HK.out i hlt
      obtain ⟨b, o, rfl, hb1, d1⟩ := HR.out.at_ (k := i) (by rw [HN.out.1]; exact hlt)
      obtain ⟨b2, o2, rfl, hb2, d2⟩ := HR2.out.at_ (k := i) (by rw [HN.out.2]; exact hlt)
      rw [hws] at d2
      have c1 := (hB.cell (p := ⟨b, o + i, none⟩) hb1).trans d1
      have c2 := (hB.cell (p := ⟨b2, o2 + i, none⟩) hb2).trans d2
      have HPi := Lib.hid (HPS.out i)
      have HNi := Lib.hid (HNS.out i)
      have hnw := HNW.out i (by omega)
      have hpl := HPL.out i (by omega)
      have hTl := HTL.out (nw i) (kf i) hnw hk5
      have HKDk := Lib.hid (fun W => HKD.out (kf i) W hk5)
      have HTOk := Lib.hid (fun W => HTO.out (nw i) (kf i) W hnw hk5)
      have HWDk := Lib.hid (fun W => HWD.out (kf i) (ix ds i) W hcan)
      have hin : (i : Int) < (n : Int) := by omega
      have hi0 : (0 : Int) ≤ (i : Int) := by omega
      have HBB := Lib.hid hB
      have HL := Lib.hid (And.intro hlt (And.intro hi hgk))
      have hwl := Nat.le_of_eq (wordB_len (wid (kf i)) (ix ds i))
      have hwo := (okW_le (wid_ok (kf i))).2
      have hwl2 := Nat.le_trans hwl hwo
      clear hws hcan hB d1 d2 hb1 hb2 hgk hwl hwo
      generalize wordB (wid (kf i)) (ix ds i) = V at *
      generalize ix ds i = d at *
      generalize hki : kf i = k at *
      have HKI := Lib.hid hki
      clear hki
      generalize wid k = wk at *
      generalize pl i = Y at *
      generalize T (nw i) k = X at *
      generalize nw i = now at *
      have hbA : ¬ 9223372036854775807 < X.length + V.length := by omega
      have hbB : ¬ 9223372036854775807 < Y.length + (X.length + V.length) := by omega
      have a1 : (⟨X.toArray⟩ : ByteArray) ++ ⟨V.toArray⟩ = ⟨(X ++ V).toArray⟩ := ba_app X V
      have a2 : (⟨Y.toArray⟩ : ByteArray) ++ ⟨(X ++ V).toArray⟩ = ⟨(Y ++ (X ++ V)).toArray⟩ := ba_app Y (X ++ V)
      go_wp2_with (go_at_call 30; refine (HKDk.out _).mono ?_; rintro e w2 ⟨rfl, rfl⟩)
      go_region_held3 (fun w' => w'.cell? ⟨b2, o2 + i, none⟩ = some (.int .i64 wk)) (first | assumption | go_keep)
        (first
          | (go_at_call 50; refine (HTOk.out _).mono ?_; rintro e w9 ⟨rfl, rfl⟩)
          | (go_at_call 51; refine (HWDk.out _).mono ?_; rintro e w9 ⟨rfl, rfl⟩))
      go_wp2
      go_roundg (n - (i + 1))
      case measure => have := HL.out; omega
      case rel => exact ⟨i + 1, by go_num, by rw [HNi.out], by rw [HPi.out], by have := HL.out; omega, by have := HL.out; omega, HBB.out.drew⟩
    · obtain rfl : i = n := by omega
      have HB := Lib.hid hB
      clear hB
      go_wp2
      go_ret
      exact ⟨rfl, HB.out⟩
/-! ### wide words -/
def wideT (s : List Int) : Tx := if vldW s then plT (difs s) (fun _ => 4) s.length else []
theorem wide_can {s : List Int} (h : vldW s = true) {i : Nat} (hi : i < s.length) : canD 11 (ix (difs s) i) = true := by
  have := difA_small h hi
  rw [difs_ix s hi]
  unfold canD
  rw [btw_iff, show hf 11 = 1024 by decide]
  omega
set_option maxHeartbeats 4000000 in
theorem Wide_any (A : Option Addr) (c : Nat) (s : List Int) (w : World) (hr : RdI w w.heap.size A s) (hl : s.length ≤ 1000000) :
    Calls Try.prog 17 #[.slice A s.length c] w fun e w' => e = .returned (.tuple #[.string ⟨(wideT s).toArray⟩, .int .i64 (encE s)]) ∧ Below w.heap.size w w' := by
  have HV := Lib.hid (Valid_any A c s w hr hl)
  unfold wideT encE
  cases hv : vldW s
  · rw [hv] at HV
    clear hr
    go_enter Try.func17, Try.ntmps17
    go_wp2_with (go_at_call 21; refine HV.out.mono ?_; rintro e w1 ⟨rfl, h1⟩)
    go_ret2
    exact ⟨by simp, h1⟩
  · obtain ⟨hv1, hv2, hv3⟩ := vldW_iff.1 hv
    have hdl := difs_len s
    have HD := Lib.hid (fun w1 (h1 : Below w.heap.size w w1) => differences_any A c s w1 (hr.on h1) (by omega) hv3)
    have HP := Lib.hid (fun A c A2 c2 W h h2 => plan_any A c A2 c2 (difs s) (List.replicate s.length 11) (fun _ => 4) W h h2 (by omega) (by omega) (by simp [hdl]) (fun i hi => ⟨by decide, by rw [hdl] at hi; simp [ix, hi, wid], wide_can hv (by omega)⟩))
    have HRP := Lib.hid (fun b c W h => Repeat_any b c 11 s.length hv1 (by omega) W h)
    unfold LisQ at HD
    rw [hv] at HV
    rw [hdl] at HD HP
    clear hr hv hdl
    generalize difs s = ds at *
    generalize s.length = n at *
    go_enter Try.func17, Try.ntmps17
    go_wp2_with (first
      | (go_at_call 21; refine HV.out.mono ?_; rintro e w1 ⟨rfl, h1⟩)
      | (go_at_call 27; refine (HD.out _ h1).mono ?_; rintro e w2 ⟨h2, A2, c2, rfl, hr2⟩; replace hr2 := Lib.hid hr2)
      | (go_at_call 36; refine (HRP.out _ _ _ ((Box.new _ _ _).cell 0)).mono ?_; rintro e w3 ⟨rfl, hbx, h3⟩; rw [World.size_alloc] at hbx; replace hbx := Lib.hid hbx)
      | (go_at_call 29; refine (HP.out _ _ _ _ _ (hr2.out.on ((below_alloc _ _).trs h3)) hbx.out.rd).mono ?_; rintro e w4 ⟨rfl, h4⟩))
    go_ret2
    exact ⟨by simp, (h1.trs (h2.trs ((below_alloc _ _).trs h3))).trs h4⟩
set_option maxHeartbeats 4000000 in
theorem refWide_any (A : Option Addr) (c : Nat) (s : List Int) (w : World) (hr : RdI w w.heap.size A s) (hl : s.length ≤ 1000000) :
    Calls Try.prog 18 #[.slice A s.length c] w fun e w' => e = .returned (.tuple #[.string ⟨(wideT s).toArray⟩, .int .i64 (encE s)]) ∧ Below w.heap.size w w' := by
  have HV := Lib.hid (refValid_any A c s w hr hl)
  unfold wideT encE
  cases hv : vldW s
  · rw [hv] at HV
    clear hr
    go_enter Try.func18, Try.ntmps18
    go_wp2_with (go_at_call 9; refine HV.out.mono ?_; rintro e w1 ⟨rfl, h1⟩)
    go_ret2
    exact ⟨by simp, h1⟩
  · obtain ⟨hv1, hv2, hv3⟩ := vldW_iff.1 hv
    have hdl := difs_len s
    have HD := Lib.hid (fun w1 (h1 : Below w.heap.size w w1) => refDifferences_any A c s w1 (hr.on h1) (by omega) (by omega) hv3)
    have HP := Lib.hid (fun A c A2 c2 W h h2 => refPlanT_any A c A2 c2 (difs s) (List.replicate s.length 11) (fun _ => 4) W h h2 (by omega) (by simp [hdl]) (fun i hi => ⟨by decide, by rw [hdl] at hi; simp [ix, hi, wid], wide_can hv (by omega)⟩))
    have HW4 : Hid (∀ W, Calls Try.prog 37 #[.int .i64 4] W fun e w' => e = .returned (.int .i64 11) ∧ w' = W) := Lib.hid (fun W => refWidth_any 4 W (by omega))
    obtain ⟨cs, hmk, hbx⟩ := run_make_int (P := Try.prog) Try.underlying22 infoInt (s.length : Int) (by omega) (by omega)
    rw [Int.toNat_natCast] at hbx hmk
    have HBM := Lib.hid hbx
    unfold LisQ at HD
    rw [hv] at HV
    rw [hdl] at HD HP
    clear hr hv hdl hbx
    generalize difs s = ds at *
    generalize s.length = n at *
    go_enter Try.func18, Try.ntmps18
    go_wp2_with (first
      | (go_at_call 9; refine HV.out.mono ?_; rintro e w1 ⟨rfl, h1⟩))
    have hB0 := h1.trs (below_alloc w1 (.cells cs 3))
    have hX0 := HBM.out w1
    have hgz : w1.heap.size < (w1.alloc (.cells cs 3)).heap.size := by simp
    generalize hw2 : w1.alloc (.cells cs 3) = w2 at *
    clear hw2
    have hgw : w.heap.size ≤ w1.heap.size := h1.size
    generalize w1.heap.size = g at *
    have H2 := Lib.hid (And.intro hX0 hB0)
    clear hX0 hB0
    go_loopg [14] n (fun gk t wr => ∃ i : Nat, t = .int .i64 i ∧ i ≤ n ∧ n - i ≤ gk ∧ BoxI wr g (List.replicate i 11 ++ List.replicate (n - i) 0) ∧ Below w.heap.size w wr)
    case atStart => exact ⟨0, rfl, by omega, by omega, by simpa using H2.out.1, H2.out.2⟩
    case round =>
      obtain ⟨i, rfl, hi, hgk, hX, hB⟩ := hrel
      by_cases hlt : i < n
      · have hin : (i : Int) < (n : Int) := by omega
        have hi0 : (0 : Int) ≤ (i : Int) := by omega
        have hc := hX.cell (k := i) (by simp; omega)
        have hf := hX.frozen i
        have HX := Lib.hid (And.intro hX hB)
        clear hX hB
        go_wp2_with (go_at_call 37; refine (HW4.out _).mono ?_; rintro e w3 ⟨rfl, rfl⟩)
        go_roundg (n - (i + 1))
        case measure => omega
        case rel => exact ⟨i + 1, by go_num, by omega, by omega, by
          have := HX.out.1.set_ i 11
          rw [List.set_append_right _ _ (by simp), List.length_replicate, Nat.sub_self] at this
          rw [List.replicate_succ', List.append_assoc, show List.replicate (n - i) (0 : Int) = 0 :: List.replicate (n - (i + 1)) 0 by rw [show n - i = (n - (i + 1)) + 1 by omega, List.replicate_succ]] at *
          simpa using this, HX.out.2.setCell (p := ⟨g, i, none⟩) hgw _⟩
      · obtain rfl : i = n := by omega
        rw [Nat.sub_self, List.replicate_zero, List.append_nil] at hX
        have HX := Lib.hid (And.intro hX hB)
        clear hX hB
        go_wp2_with (first
          | (go_at_call 31; refine (HD.out _ HX.out.2).mono ?_; rintro e w4 ⟨h4, A4, c4, rfl, hr4⟩; replace hr4 := Lib.hid hr4)
          | (go_at_call 33; refine (HP.out _ _ _ _ _ hr4.out ((HX.out.1.on h4).rd)).mono ?_; rintro e w5 ⟨rfl, h5⟩))
        go_ret2
        exact ⟨by simp, (HX.out.2.trs h4).trs h5⟩
end Go.Proofs.Yteodljaphkpimaa
