/- Walks over package sky: Join, Both, Without, Rest; Set. -/
import Derived.Test.YtgbpmleipdecgaaSkyCm
namespace Go.Proofs.Ytgbpmleipdecgaa
open Go.RowKit
set_option linter.unusedSimpArgs false
set_option linter.unusedVariables false

def joinR (l m : List (Int × Int)) : Px := fun x => uniP l x || uniP m x
def bothR (l m : List (Int × Int)) : Px := fun x => uniP l x && uniP m x
def lessR (l m : List (Int × Int)) : Px := fun x => uniP l x && !(uniP m x)
theorem enters_sky (f : Nat) (h : ∀ args w, (callFunc f args).run Try.prog w = .ok (.enter f args) w) : ∀ args w, (callFunc f args).run Try.prog w = .ok (.enter f args) w := h
set_option maxHeartbeats 1000000 in
theorem Join_any (A : Option Addr) (c : Nat) (l : List (Int × Int)) (A2 : Option Addr) (c2 : Nat) (m : List (Int × Int)) (w : World) (hr : RdP w w.heap.size A l) (hl : l.length ≤ 1000000) (hr2 : RdP w w.heap.size A2 m) (hl2 : m.length ≤ 1000000) :
    Calls Try.prog 14 #[.slice A l.length c, .slice A2 m.length c2] w (LstQ (mixL l m (joinR l m)) (mixE l m (joinR l m)) w) := by
  have HM := Lib.hid (mixed_any 48 (joinR l m) A c l A2 c2 m w hr hl hr2 hl2 (enters_of Try.func48 (by kernel_rfl) rfl) (fun W i hi => join1_any (uniP l) (uniP m) i W))
  unfold LstQ at *
  clear hr hr2
  generalize mixL l m (joinR l m) = RL at *
  generalize mixE l m (joinR l m) = RE at *
  generalize l.length = n at *
  generalize m.length = n2 at *
  go_enter Try.func14, Try.ntmps14
  go_wp2_with (go_at_call 47; refine HM.out.mono ?_; rintro e w1 ⟨h1, A1, c1, rfl, hr1⟩)
  go_ret2
  exact ⟨h1, A1, c1, rfl, hr1⟩
set_option maxHeartbeats 1000000 in
theorem Both_any (A : Option Addr) (c : Nat) (l : List (Int × Int)) (A2 : Option Addr) (c2 : Nat) (m : List (Int × Int)) (w : World) (hr : RdP w w.heap.size A l) (hl : l.length ≤ 1000000) (hr2 : RdP w w.heap.size A2 m) (hl2 : m.length ≤ 1000000) :
    Calls Try.prog 15 #[.slice A l.length c, .slice A2 m.length c2] w (LstQ (mixL l m (bothR l m)) (mixE l m (bothR l m)) w) := by
  have HM := Lib.hid (mixed_any 49 (bothR l m) A c l A2 c2 m w hr hl hr2 hl2 (enters_of Try.func49 (by kernel_rfl) rfl) (fun W i hi => both1_any (uniP l) (uniP m) i W))
  unfold LstQ at *
  clear hr hr2
  generalize mixL l m (bothR l m) = RL at *
  generalize mixE l m (bothR l m) = RE at *
  generalize l.length = n at *
  generalize m.length = n2 at *
  go_enter Try.func15, Try.ntmps15
  go_wp2_with (go_at_call 47; refine HM.out.mono ?_; rintro e w1 ⟨h1, A1, c1, rfl, hr1⟩)
  go_ret2
  exact ⟨h1, A1, c1, rfl, hr1⟩
set_option maxHeartbeats 1000000 in
theorem Without_any (A : Option Addr) (c : Nat) (l : List (Int × Int)) (A2 : Option Addr) (c2 : Nat) (m : List (Int × Int)) (w : World) (hr : RdP w w.heap.size A l) (hl : l.length ≤ 1000000) (hr2 : RdP w w.heap.size A2 m) (hl2 : m.length ≤ 1000000) :
    Calls Try.prog 16 #[.slice A l.length c, .slice A2 m.length c2] w (LstQ (mixL l m (lessR l m)) (mixE l m (lessR l m)) w) := by
  have HM := Lib.hid (mixed_any 50 (lessR l m) A c l A2 c2 m w hr hl hr2 hl2 (enters_of Try.func50 (by kernel_rfl) rfl) (fun W i hi => without_any (uniP l) (uniP m) i W))
  unfold LstQ at *
  clear hr hr2
  generalize mixL l m (lessR l m) = RL at *
  generalize mixE l m (lessR l m) = RE at *
  generalize l.length = n at *
  generalize m.length = n2 at *
  go_enter Try.func16, Try.ntmps16
  go_wp2_with (go_at_call 47; refine HM.out.mono ?_; rintro e w1 ⟨h1, A1, c1, rfl, hr1⟩)
  go_ret2
  exact ⟨h1, A1, c1, rfl, hr1⟩

/-! ### the whole sky -/
set_option maxRecDepth 100000 in
set_option maxHeartbeats 4000000 in
theorem whole_any (w : World) : Calls Try.prog 51 #[] w fun e w' => e = .returned (rgV (fun _ => true)) ∧ Below w.heap.size w w' := by
  have x1 := BoxR.new w (fun _ => false)
  have x2 := BoxR.new (w.alloc (.cells (rgA fun _ => false) 81)) (fun _ => false)
  rw [World.size_alloc] at x2
  have HX := Lib.hid (And.intro (x1.on (below_alloc _ (.cells (rgA fun _ => false) 81))) (And.intro x2 ((below_alloc w (.cells (rgA fun _ => false) 81)).trs (below_alloc _ (.cells (rgA fun _ => false) 81)))))
  have HSZ := Lib.hid rgA_size
  have HO1 := Lib.hid rgA_one
  have HMZ := Lib.hid (mixW_zero (fun _ => true))
  have HMA := Lib.hid (mixW_all (fun _ => true))
  have HWA := Lib.hid wd_all
  clear x1 x2
  generalize hgw : w.heap.size = gw at *
  have HGW := Lib.hid hgw
  clear hgw
  go_enter Try.func51, Try.ntmps51
  go_upto_region 2 with (fail)
  rw [rgA_none]
  generalize hW0 : (w.alloc (.cells (rgA fun _ => false) 81)).alloc (.cells (rgA fun _ => false) 81) = W0 at *
  clear hW0
  rw [HGW.out]
  go_wp2
  go_loopg [3] 48 (fun gk t wr => ∃ i : Nat, t = .int .i64 i ∧ i ≤ 48 ∧ 48 - i ≤ gk ∧ BoxR wr (gw + 1) (mixW (fun _ => true) i) ∧ BoxR wr gw (fun _ => false) ∧ Below gw w wr)
  case atStart => exact ⟨0, rfl, by omega, by omega, by rw [HMZ.out]; exact HX.out.2.1, HX.out.1, HX.out.2.2⟩
  case round =>
    obtain ⟨i, rfl, hi, hk, h1, h2, hB⟩ := hrel
    by_cases hlt : i < 48
    · have hltI : (i : Int) < 48 := by omega
      have cc := h1.cell hlt
      have cf := h1.frozen i
      have hw := h1.word hlt
      rw [HWA.out] at hw
      have HW := Lib.hid hw
      have HX2 := Lib.hid (And.intro h2 hB)
      have HL := Lib.hid (And.intro hlt hk)
      clear hw h1 h2 hB
      obtain ⟨x, hx⟩ : ∃ x : Nat, x = wd (mixW (fun _ => true) i) i := ⟨_, rfl⟩
      rw [← hx] at cc
      clear hx
      go_wp2
      go_roundg (48 - (i + 1))
      case measure => have := HL.out; omega
      case rel => exact ⟨i + 1, by go_num, by have := HL.out; omega, by have := HL.out; omega, HW.out, Box.far HX2.out.1 (p := ⟨gw + 1, i, none⟩) (by simp) _, HX2.out.2.setCell (p := ⟨gw + 1, i, none⟩) (by simp) _⟩
    · obtain rfl : i = 48 := by omega
      have H1 := Lib.hid (h1.congr HMA.out)
      have H2 := Lib.hid h2
      have H3 := Lib.hid hB
      have HU := Lib.hid Try.underlying81
      clear h1 h2 hB
      unfold rgV at *
      go_wp2_with (first
        | (refine wpList_load_row rfl 81 (.tmp 1) rfl (gw + 1) rfl 81 _ (0, 0) _ H1.out HU.out rfl (by rw [infoReg, HSZ.out]) ?_)
        | (refine wpList_store_mid rfl 81 (.tmp 0) (.tmp 9) rfl gw 0 (rgA (fun _ => true)) rfl rfl (by rw [HSZ.out]; exact box_there2 H2.out (HSZ.out _)) (by rw [infoReg, HSZ.out]) (HO1.out _) ?_))
      have hbx := box_setAll2 H2.out (vs := rgA (fun _ => true)) (by rw [HSZ.out, HSZ.out])
      have hbl := below_setCells (g := gw) (Nat.le_refl gw) (rgA (fun _ => true)).toList 0 _ H3.out
      generalize World.setCells wr gw 0 (rgA (fun _ => true)).toList = W at *
      have hload := run_loadVar_row (P := Try.prog) W gw 81 81 _ (0, 0) _ hbx HU.out rfl (by rw [infoReg, HSZ.out])
      exact bodyPost_ret (results_cell Try.results51 (p := ⟨gw, 0, none⟩) rfl hload) rfl ⟨rfl, hbl⟩
def skyL : List (Int × Int) := cellsP (fun _ => true)
set_option maxHeartbeats 1000000 in
theorem Rest_any (A : Option Addr) (c : Nat) (l : List (Int × Int)) (w : World) (hr : RdP w w.heap.size A l) (hl : l.length ≤ 1000000) :
    Calls Try.prog 17 #[.slice A l.length c] w (LstQ (mixL skyL l (lessR skyL l)) (mixE skyL l (lessR skyL l)) w) := by
  have hsl : skyL.length ≤ 3072 := cells_len _
  have HM := Lib.hid (fun A1 c1 W (h1 : RdP W W.heap.size A1 skyL) (hW : Below w.heap.size w W) => mixed_any 50 (lessR skyL l) A1 c1 skyL A c l W h1 (by omega) (hr.on hW) hl (enters_of Try.func50 (by kernel_rfl) rfl) (fun W i hi => without_any (uniP skyL) (uniP l) i W))
  have HW := Lib.hid whole_any
  have HC := Lib.hid (fun W => cells_any (fun _ => true) W)
  rw [show cellsP (fun _ => true) = skyL from rfl] at HC
  unfold LstQ CelsQ at *
  clear hr hl hsl
  generalize mixL skyL l (lessR skyL l) = RL at *
  generalize mixE skyL l (lessR skyL l) = RE at *
  generalize l.length = n at *
  generalize hs : skyL.length = n2 at *
  clear hs
  go_enter Try.func17, Try.ntmps17
  go_wp2_with (first
    | (go_at_call 51; refine (HW.out _).mono ?_; rintro e w1 ⟨rfl, h1⟩)
    | (go_at_call 52; refine (HC.out _).mono ?_; rintro e w2 ⟨h2, A2, c2, rfl, hr2⟩; have h2 := h1.trs h2)
    | (go_at_call 47; refine (HM.out _ _ _ hr2 h2).mono ?_; rintro e w3 ⟨h3, A3, c3, rfl, hr3⟩))
  go_ret2
  exact ⟨h2.trs h3, A3, c3, rfl, hr3⟩

/-! ### Set -/
def setBad (l : List (Int × Int)) : Bool := decide (4000 < l.length) || badB l
def setE (l : List (Int × Int)) : Int := if setBad l then 2 else toldE (uniP l)
def setL (l : List (Int × Int)) : List (Int × Int) := if setBad l then [] else toldL (uniP l)
end Go.Proofs.Ytgbpmleipdecgaa
