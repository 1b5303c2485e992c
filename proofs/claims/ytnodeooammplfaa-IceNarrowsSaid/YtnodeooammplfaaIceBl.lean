/- Walk over package ice: the losses over estimates. -/
import Derived.Test.YtnodeooammplfaaIceEs
import Derived.Deep.RegionHeld3
import Derived.Deep.Cut
import Derived.Laws.EntriesVeiled
namespace Go.Proofs.Ytnodeooammplfaa
open Go.RowKit
set_option linter.unusedSimpArgs false
set_option linter.unusedVariables false

noncomputable abbrev five (w : World) (A A2 : Option Addr) (n c n2 c2 : Nat) (x y : Int) : World :=
  (((((w.alloc (.cells #[.slice A n c] 22)).alloc (.cells #[.slice A2 n2 c2] 48)).alloc (.cells #[.int .i64 x] 3)).alloc (.cells #[.int .i64 y] 3)).alloc (.cells #[.func (.func 106) #[] #[.pointer (some ⟨w.heap.size, 0, none⟩)]] 105))
theorem five_below (w : World) (A A2 : Option Addr) (n c n2 c2 : Nat) (x y : Int) : Below w.heap.size w (five w A A2 n c n2 c2 x y) :=
  ((((below_alloc w _).alloc (by simp) _).alloc (by simp; omega) _).alloc (by simp; omega) _).alloc (by simp; omega) _
theorem five_cells (w : World) (A A2 : Option Addr) (n c n2 c2 : Nat) (x y : Int) (W : World) (hW : Below (five w A A2 n c n2 c2 x y).heap.size (five w A A2 n c n2 c2 x y) W) :
    W.cell? ⟨w.heap.size, 0, none⟩ = some (.slice A n c) ∧ W.cell? ⟨w.heap.size + 1, 0, none⟩ = some (.slice A2 n2 c2) ∧ W.cell? ⟨w.heap.size + 1 + 1, 0, none⟩ = some (.int .i64 x) ∧ W.cell? ⟨w.heap.size + 1 + 1 + 1, 0, none⟩ = some (.int .i64 y) ∧
    W.cell? ⟨w.heap.size + 1 + 1 + 1 + 1, 0, none⟩ = some (.func (.func 106) #[] #[.pointer (some ⟨w.heap.size, 0, none⟩)]) := by
  have b0 := Box.new w 22 #[.slice A n c]
  have b1 := Box.new (w.alloc (.cells #[.slice A n c] 22)) 48 #[.slice A2 n2 c2]
  have b2 := Box.new ((w.alloc (.cells #[.slice A n c] 22)).alloc (.cells #[.slice A2 n2 c2] 48)) 3 #[.int .i64 x]
  have b3 := Box.new (((w.alloc (.cells #[.slice A n c] 22)).alloc (.cells #[.slice A2 n2 c2] 48)).alloc (.cells #[.int .i64 x] 3)) 3 #[.int .i64 y]
  have b4 := Box.new ((((w.alloc (.cells #[.slice A n c] 22)).alloc (.cells #[.slice A2 n2 c2] 48)).alloc (.cells #[.int .i64 x] 3)).alloc (.cells #[.int .i64 y] 3)) 105 #[.func (.func 106) #[] #[.pointer (some ⟨w.heap.size, 0, none⟩)]]
  simp only [World.size_alloc] at b1 b2 b3 b4
  exact ⟨((((((b0.alloc _).alloc _).alloc _).alloc _)).on hW).cell 0, (((((b1.alloc _).alloc _).alloc _)).on hW).cell 0, ((((b2.alloc _).alloc _)).on hW).cell 0, (((b3.alloc _)).on hW).cell 0, (b4.on hW).cell 0⟩
theorem five_opened (A A2 : Option Addr) (c c2 : Nat) (L : List (Int × Int)) (Es : List (List Int)) (x y : Int) (w : World) (hr : RdP w w.heap.size A L) (hl : L.length ≤ 1000000) (hr2 : RdL w w.heap.size A2 Es) (hl2 : Es.length ≤ 1000000) (hls : ∀ k, k < Es.length → (lx Es k).length ≤ 1000000) :
    Calls Try.prog 65 #[.slice A L.length c, .func (.func 109) #[] #[.pointer (some ⟨w.heap.size + 1 + 1, 0, none⟩), .pointer (some ⟨w.heap.size + 1 + 1 + 1, 0, none⟩), .pointer (some ⟨w.heap.size + 1, 0, none⟩), .pointer (some ⟨w.heap.size + 1 + 1 + 1 + 1, 0, none⟩)]]
      (five w A A2 L.length c Es.length c2 x y) (OpenedPost L (estB (cum (mets L)).length L.length x y Es) (five w A A2 L.length c Es.length c2 x y)) := by
  refine opened_any 109 _ A c L _ _ (hr.on (five_below w A A2 L.length c Es.length c2 x y)) (by omega) (enters_of Try.func109 (by kernel_rfl) rfl) ?_
  intro hv W A' c' hB hR
  have h600 := mets_len600 (okL_of_vld hv)
  obtain ⟨k0, k1, k2, k3, k4⟩ := five_cells w A A2 L.length c Es.length c2 x y W hB
  exact losses2_any A' A2 A (cum (mets L)).length c' c2 c L.length _ _ _ _ _ x y Es W (by rw [cum_length]; omega) hl ((hr2.on (five_below w A A2 L.length c Es.length c2 x y)).on hB) hl2 hls k2 k3 k1 k4 k0
theorem losses3_any (A3 : Option Addr) (c3 bb : Nat) (l : List Int) (k : Nat) (w : World) (hr : RdI w w.heap.size A3 l) (hk : k < l.length) (hc : w.cell? ⟨bb, 0, none⟩ = some (.slice A3 l.length c3)) :
    Calls Try.prog 111 #[.int .i64 k, .pointer (some ⟨bb, 0, none⟩)] w fun e w' => e = .returned (.int .i64 (ix l k)) ∧ w' = w := by
  obtain ⟨b, o, rfl, hb, c0⟩ := hr.at_ hk
  have hk2 : (k : Int) < (l.length : Int) := by omega
  clear hr
  generalize ix l k = z at *
  generalize l.length = n at *
  go_enter Try.func111, Try.ntmps111
  go_wp2
  go_ret
  exact ⟨rfl, rfl⟩

set_option maxRecDepth 100000 in
set_option maxHeartbeats 4000000 in
theorem losses_any (A A2 : Option Addr) (c c2 : Nat) (L : List (Int × Int)) (Es : List (List Int)) (x y : Int) (w : World) (hr : RdP w w.heap.size A L) (hl : L.length ≤ 1000000) (hr2 : RdL w w.heap.size A2 Es) (hl2 : Es.length ≤ 1000000) (hls : ∀ k, k < Es.length → (lx Es k).length ≤ 1000000) :
    Calls Try.prog 87 #[.slice A L.length c, .slice A2 Es.length c2, .int .i64 x, .int .i64 y] w (LosQ (LosE L Es x y) (LosL L Es x y) w) := by
  have HO := Lib.hid (five_opened A A2 c c2 L Es x y w hr hl hr2 hl2 hls)
  unfold OpenedPost at HO
  have HC := Lib.hid (five_cells w A A2 L.length c Es.length c2 x y)
  have HB5 := Lib.hid (five_below w A A2 L.length c Es.length c2 x y)
  have HNO : Hid (∀ W, gate (vld L) (estB (cum (mets L)).length L.length x y Es) ≠ 0 → Below w.heap.size w W → LosQ (LosE L Es x y) (LosL L Es x y) w (.returned (.tuple #[.slice none 0 0, .int .i64 (gate (vld L) (estB (cum (mets L)).length L.length x y Es))])) W) := Lib.hid (fun W h0 hW => ⟨hW, none, 0, by rw [LosL_len.2.2 h0]; rfl, by rw [LosL_len.2.2 h0]; exact .inl rfl⟩)
  have HYE : Hid (∀ W B v, LosE L Es x y = 0 → Below w.heap.size w W → OwnI W B 3 v (losV L Es x y Es.length) → LosQ (LosE L Es x y) (LosL L Es x y) w (.returned (.tuple #[v, .int .i64 0])) W) := Lib.hid (fun W B v h hW ho => by
    obtain ⟨A', c', rfl, h'⟩ := ho.rd
    refine ⟨hW, A', c', ?_, ?_⟩
    · unfold LosL; rw [if_pos h, h]
    · unfold LosL; rw [if_pos h]; exact h')
  have HOK : Hid (vld L = true → estB (cum (mets L)).length L.length x y Es = true → LosE L Es x y = 0) := Lib.hid (fun h1 h2 => by unfold LosE; exact gate_ok h1 h2)
  generalize LosQ (LosE L Es x y) (LosL L Es x y) w = Q at *
  generalize hg : gate (vld L) (estB (cum (mets L)).length L.length x y Es) = E at *
  clear hg
  have HR := Lib.hid hr
  have HR2 := Lib.hid hr2
  clear hr hr2
  unfold five at HO HC HB5
  go_enter Try.func87, Try.ntmps87
  go_upto_region 2 with (fail)
  generalize hW5 : (((((w.alloc (.cells #[.slice A L.length c] 22)).alloc (.cells #[.slice A2 Es.length c2] 48)).alloc (.cells #[.int .i64 x] 3)).alloc (.cells #[.int .i64 y] 3)).alloc (.cells #[.func (.func 106) #[] #[.pointer (some ⟨w.heap.size, 0, none⟩)]] 105)) = W5 at *
  clear hW5
  obtain ⟨k0, k1, k2, k3, k4⟩ := HC.out W5 (Below.refl _ _)
  go_wp2_with (go_at_call 65; refine HO.out.mono ?_; rintro e w1 ⟨h1, ⟨hne, rfl⟩ | ⟨hv, hrt, A1, c1, rfl, hr1⟩⟩ <;> (obtain ⟨m0, m1, m2, m3, m4⟩ := HC.out w1 h1) <;> (first | (have hne2 : (E != 0) = true := by rw [bne_iff_ne]; exact hne) | skip))
  · exact HNO.out _ hne (HB5.out.trs h1)
  · have HVR := Lib.hid (And.intro hv hrt)
    have HB1 := Lib.hid (HB5.out.trs h1)
    have hcl := cum_length (mets L)
    have HW := Lib.hid (estB_iff.1 (show estB ((mets L).length + 1) L.length x y Es = true by rw [← hcl]; exact hrt))
    have hes := HW.out.2.1
    have HWR := Lib.hid (fun k (hk : k < Es.length) => HW.out.2.2 k hk)
    have HBB : Hid (isB ((mets L).length + 1) [x, y] = true) := Lib.hid (by rw [isB_two_eq, Bool.and_eq_true]; exact ⟨btw_iff.2 HW.out.1.1, btw_iff.2 HW.out.1.2⟩)
    have HCE := Lib.hid (fun W (hW : Below w1.heap.size w1 W) => And.intro hW (HC.out W (h1.trs hW)))
    clear hv hrt hr1 hcl
    go_loopg [13, 15, 28] Es.length (fun k x13 x15 x28 wr => ∃ j : Nat, x28 = .int .i64 j ∧ j ≤ Es.length ∧ Es.length - j ≤ k ∧ Below w1.heap.size w1 wr ∧ OwnI wr w1.heap.size 3 x13 (losV L Es x y j))
    case atStart => exact ⟨0, rfl, by omega, by omega, Below.refl _ _, OwnI.nil _ _ _⟩
    case round =>
      obtain ⟨j, rfl, hj, hkj, hB, hO⟩ := hrel
      by_cases hlt : j < Es.length
      · obtain ⟨b2, o2, A3, c3, rfl, hb2, ce, hr3⟩ := (HR2.out.on (HB1.out.trs hB)).at_ (k := j) hlt
        have hltI : (j : Int) < (Es.length : Int) := by omega
        have hwj := HWR.out j hlt
        have hlen := (wrongB_no.1 hwj).1
        have hokt := okL_thk HVR.out.1 hwj
        have hvt : vld (thk L (lx Es j)) = true := by rw [vld_thk HVR.out.1 hlen, hwj]; rfl
        have HJ := Lib.hid (And.intro hlt hkj)
        have HLV := Lib.hid (losV_succ L Es x y j)
        have HLL := Lib.hid (losV_len L Es x y j)
        have hB9 := hB.alloc hB.size (.cells #[.slice A3 (lx Es j).length c3] 37)
        have HO9 := Lib.hid (hO.kept (below_alloc wr (.cells #[.slice A3 (lx Es j).length c3] 37)))
        have hbx := Box.new wr 37 #[.slice A3 (lx Es j).length c3]
        have HST := Lib.hid (fun W (hW : Below (wr.alloc (.cells #[.slice A3 (lx Es j).length c3] 37)).heap.size (wr.alloc (.cells #[.slice A3 (lx Es j).length c3] 37)) W) =>
          stack_any 111 #[.pointer (some ⟨wr.heap.size, 0, none⟩)] A c L (thk L (lx Es j)) W (HR.out.on ((HB1.out.trs hB9).trs hW)) hokt (thkT_len _ _ _) (fun k hk => thkT_pa hk) (enters_of Try.func111 (by kernel_rfl) rfl)
            (fun W' k hk hW' => by
              have := losses3_any A3 c3 wr.heap.size (lx Es j) k W' (((hr3.on (below_alloc wr _)).on hW).on hW') (by omega) ((hbx.on (hW.trs hW')).cell 0)
              rw [thkT_pb hk]; exact this))
        have HLO := Lib.hid (fun A c W h => loss_col A c (thk L (lx Es j)) x y W h hvt (by rw [cum_length, mets_thk_len]; exact HBB.out))
        have hsz9 := hB9.size
        have HB9 := Lib.hid hB9
        clear hokt hvt hwj hB hO hr3 hbx hB9 hlen
        generalize lossI (cum (mets (thk L (lx Es j)))) x.toNat y.toNat = dl at *
        generalize cum (mets (thk L (lx Es j))) = cm at *
        go_upto_region 9 with (fail)
        generalize hw9 : wr.alloc (.cells #[.slice A3 (lx Es j).length c3] 37) = w9 at *
        obtain ⟨_, m0, m1, m2, m3, m4⟩ := HCE.out w9 HB9.out
        go_region_held3 (fun w' => Below w1.heap.size w1 w' ∧ w'.cell? ⟨w.heap.size, 0, none⟩ = some (.slice A L.length c) ∧ w'.cell? ⟨w.heap.size + 1 + 1, 0, none⟩ = some (.int .i64 x) ∧ w'.cell? ⟨w.heap.size + 1 + 1 + 1, 0, none⟩ = some (.int .i64 y))
          (first | exact (have q := HCE.out _ hBF; ⟨q.1, q.2.1, q.2.2.2.1, q.2.2.2.2.1⟩) | exact (have q := HCE.out _ (HB9.out.trs h92); ⟨q.1, q.2.1, q.2.2.2.1, q.2.2.2.2.1⟩) | exact (have q := HCE.out _ ((HB9.out.trs h92).drewsN _); ⟨q.1, q.2.1, q.2.2.2.1, q.2.2.2.2.1⟩) | exact (have q := HCE.out _ (HB9.out.drewsN 1); ⟨q.1, q.2.1, q.2.2.2.1, q.2.2.2.2.1⟩) | exact (have q := HCE.out _ ((‹Below w1.heap.size w1 _ ∧ _›).1.trs (below_alloc _ _)); ⟨q.1, q.2.1, q.2.2.2.1, q.2.2.2.2.1⟩) | go_keep)
          (first
            | (go_at_call 101; refine (HST.out _ ((Below.refl _ _).drewsN 1)).mono ?_; rintro e w2 ⟨h2, A6, c6, rfl, hr6⟩; have h92 := ((Below.refl w9.heap.size w9).drewsN 1).trs h2)
            | (go_at_call 69; refine (HLO.out _ _ _ hr6).mono ?_; rintro e w3 ⟨rfl, nq, rfl⟩)
            | (refine step_app_int 37 rfl (.tmp 32) (.tmp 39) rfl Try.underlying37 infoInt _ w1.heap.size _ _ (losV L Es x y j) dl rfl rfl ((HO9.out.kept (h92.drewsN _)).kept (below_alloc _ _)) (Box.new _ _ _) (by rw [HLL.out]; omega) (by have := h92.size; simp; omega) ?_; intro v6 w6 hO6 hB6 _; have hBF := (HB9.out.trs ((h92.drewsN _).trs (below_alloc _ _))).trans hB6))
        all_goals
          go_wp2
          go_roundg (Es.length - (j + 1))
          case measure => have := HJ.out; omega
          case rel => exact ⟨j + 1, by go_num, by have := HJ.out; omega, by have := HJ.out; omega, hBF, by rw [HLV.out]; exact hO6⟩
      · obtain rfl : j = Es.length := by omega
        have hltI : ¬ (Es.length : Int) < (Es.length : Int) := by omega
        have H0 := Lib.hid (HYE.out wr _ _ (HOK.out HVR.out.1 HVR.out.2) (HB1.out.trs hB) hO)
        clear hB hO
        go_wp2
        exact H0.out
end Go.Proofs.Ytnodeooammplfaa
