/- Walks over sky's reference: areas. -/
import Derived.Test.YtgbpmleipdecgaaSkyCn
import Derived.Test.YtgbpmleipdecgaaLib5
namespace Go.Proofs.Ytgbpmleipdecgaa
open Go.RowKit
set_option linter.unusedSimpArgs false
set_option linter.unusedVariables false

/-- an area of the reference -/
def BoxA (w : World) (g : Nat) (S : Px) : Prop := BoxB w g 4 (truths S 3072)
theorem BoxA.cell {w : World} {g : Nat} {S : Px} (h : BoxA w g S) {i : Nat} (hi : i < 3072) : w.cell? ⟨g, i, none⟩ = some (.bool (S i)) := by
  have := BoxB.cell h (k := i) (by rw [truths_len]; exact hi)
  rw [truths_get _ _ _ hi] at this
  exact this
theorem BoxA.lt {w : World} {g : Nat} {S : Px} (h : BoxA w g S) : g < w.heap.size := BoxB.lt h
theorem BoxA.frozen {w : World} {g : Nat} {S : Px} (h : BoxA w g S) (i : Nat) : w.frozen? ⟨g, i, none⟩ = false := BoxB.frozen h i
theorem BoxA.on {w w' : World} {g : Nat} {S : Px} (h : BoxA w g S) (hb : Below w.heap.size w w') : BoxA w' g S := BoxB.on h hb
theorem truths_congr {S T : Px} {n : Nat} (h : ∀ x, x < n → S x = T x) : truths S n = truths T n := by
  unfold truths
  exact List.map_congr_left fun x hx => h x (by simpa using hx)
theorem BoxA.congr {w : World} {g : Nat} {S T : Px} (h : BoxA w g S) (e : ∀ x, x < 3072 → S x = T x) : BoxA w g T := by
  unfold BoxA at *; rw [← truths_congr e]; exact h
theorem BoxA.set_ {w : World} {g : Nat} {S : Px} (h : BoxA w g S) (p : Nat) (b : Bool) : BoxA (w.setCell ⟨g, p, none⟩ (.bool b)) g (fun x => if x = p then b else S x) := by
  have := BoxB.set_ h p b
  rw [truths_set] at this
  exact this
theorem BoxA.keep {w w' : World} {B g : Nat} {S : Px} (h : BoxA w g S) (hb : Below B w w') (hg : g < B) : BoxA w' g S := Box.keep h hb hg
theorem infoBool : (Try.prog.info? 4).map (fun i => (i.zero, i.size, i.bytes)) = some (some (.bool false), 1, 1) := by kernel_rfl
/-- an area comes back -/
def AreQ (S : Px) (w : World) (e : Ending) (w' : World) : Prop := ∃ g, e = .returned (.slice (some ⟨g, 0, none⟩) 3072 3072) ∧ w.heap.size ≤ g ∧ Below w.heap.size w w' ∧ BoxA w' g S
set_option maxHeartbeats 1000000 in
theorem Nothing_any (w : World) : Calls Try.prog 55 #[] w (AreQ (fun _ => false) w) := by
  have HP := Lib.hid (fun W => refpixels_any 4 W rfl)
  rw [show px 4 = 3072 by decide] at HP
  obtain ⟨cs, hmk, hbx⟩ := run_make_bool (P := Try.prog) Try.underlying49 infoBool (3072 : Int) (by omega) (by omega)
  rw [show Int.toNat 3072 = 3072 by rfl] at hbx
  rw [show Int.toNat 3072 = 3072 by rfl] at hmk
  have hb := hbx w
  rw [truths_no] at hb
  have H0 : Hid (AreQ (fun _ => false) w (.returned (.slice (some ⟨w.heap.size, 0, none⟩) 3072 3072)) (w.alloc (.cells cs 4))) := Lib.hid ⟨w.heap.size, rfl, Nat.le_refl _, below_alloc _ _, hb⟩
  generalize AreQ (fun _ => false) w = Q at *
  clear hbx hb
  go_enter Try.func55, Try.ntmps55
  go_wp2_with (go_at_call 74; refine (HP.out _).mono ?_; rintro e w' ⟨rfl, rfl⟩)
  exact H0.out
theorem width_any (h : Nat) (p : Int) (w : World) (hh : h ≤ 4) :
    Calls Try.prog 56 #[.agg #[.int .i64 (4 - (h : Int)), .int .i64 p]] w fun e w' => e = .returned (.int .i64 ((4 ^ h : Nat) : Int)) ∧ Below w.heap.size w w' := by
  have key : ∀ (o m : Int), (o = 4 ∧ m = 1 ∨ o = 3 ∧ m = 4 ∨ o = 2 ∧ m = 16 ∨ o = 1 ∧ m = 64 ∨ o = 0 ∧ m = 256) →
      Calls Try.prog 56 #[.agg #[.int .i64 o, .int .i64 p]] w fun e w' => e = .returned (.int .i64 m) ∧ Below w.heap.size w w' := by
    intro o m hc
    have hBl := Lib.hid (below_alloc w (.cells #[.int .i64 o, .int .i64 p] 37))
    obtain ⟨c0, c1, c2⟩ := cells_new2 w (.int .i64 o) (.int .i64 p) 37
    rcases hc with ⟨rfl, rfl⟩ | ⟨rfl, rfl⟩ | ⟨rfl, rfl⟩ | ⟨rfl, rfl⟩ | ⟨rfl, rfl⟩
    all_goals
      go_enter Try.func56, Try.ntmps56
      go_wp2
      go_ret
      exact ⟨rfl, hBl.out⟩
  refine key _ _ ?_
  have : h = 0 ∨ h = 1 ∨ h = 2 ∨ h = 3 ∨ h = 4 := by omega
  rcases this with rfl | rfl | rfl | rfl | rfl <;> decide
theorem IsCell_any (k p : Int) (w : World) :
    Calls Try.prog 19 #[.agg #[.int .i64 k, .int .i64 p]] w fun e w' => e = .returned (.bool (okP k p)) ∧ Below w.heap.size w w' := by
  have HI := Lib.hid (fun W => isPixel_any k p W)
  have hBl := Lib.hid (below_alloc w (.cells #[.int .i64 k, .int .i64 p] 37))
  obtain ⟨c0, c1, c2⟩ := cells_new2 w (.int .i64 k) (.int .i64 p) 37
  generalize okP k p = r at *
  go_enter Try.func19, Try.ntmps19
  go_wp2_with (go_at_call 54; refine (HI.out _).mono ?_; rintro e w' ⟨rfl, rfl⟩)
  go_ret
  exact ⟨rfl, hBl.out⟩

theorem set_true (S : Px) (p : Nat) : (fun x => if x = p then true else S x) = fun x => S x || x == p := by
  funext x
  by_cases e : x = p
  · simp [e]
  · simp [e]
set_option maxRecDepth 100000 in
set_option maxHeartbeats 4000000 in
theorem AreaOf_any (A : Option Addr) (c : Nat) (l : List (Int × Int)) (w : World) (hr : RdP w w.heap.size A l) (hl : l.length ≤ 1000000) (hok : okL l) :
    Calls Try.prog 21 #[.slice A l.length c] w (AreQ (uniP l) w) := by
  have HR := Lib.hid hr
  have HN := Lib.hid (Nothing_any w)
  have HO := Lib.hid hok
  have HUS := Lib.hid (fun i (hi : i < l.length) => uniP_succ l hi)
  have HTL : Hid (l.take l.length = l) := Lib.hid (List.take_length)
  have HU0 : Hid (uniP (l.take 0) = fun _ => false) := Lib.hid (by rw [List.take_zero]; rfl)
  unfold AreQ at *
  clear hr hok
  generalize hn : l.length = n at *
  have HNN := Lib.hid hn
  clear hn
  go_enter Try.func21, Try.ntmps21
  go_wp2_with (go_at_call 55; refine HN.out.mono ?_; rintro e w1 ⟨g, rfl, hg, h1, hx⟩)
  have HG := Lib.hid hg
  go_loopg [4] n (fun gk t wr => ∃ i : Nat, t = .int .i64 i ∧ i ≤ n ∧ n - i ≤ gk ∧ Below w.heap.size w wr ∧ BoxA wr g (uniP (l.take i)))
  case atStart => exact ⟨0, rfl, by omega, by omega, h1, by rw [HU0.out]; exact hx⟩
  case round =>
    obtain ⟨i, rfl, hi, hk, hB, hX⟩ := hrel
    by_cases hlt : i < n
    · obtain ⟨b, o, rfl, hb, c0, c1⟩ := HR.out.at_ (k := i) (by rw [HNN.out]; exact hlt)
      have hltI : (i : Int) < (n : Int) := by omega
      obtain ⟨h, q, hh, e1, e2, hq⟩ := okP_form (HO.out i (by rw [HNN.out]; exact hlt))
      have HWI := Lib.hid (fun W => width_any h q W hh)
      have HUI := Lib.hid (HUS.out i hlt)
      rw [e1, e2] at HUI
      rw [e1] at c0
      rw [e2] at c1
      have hfit := cell_fits hq
      have HPC := Lib.hid (putP_cell (uniP (l.take i)) h q)
      have HPZ := Lib.hid (putP_zero (uniP (l.take i)) (q * 4 ^ h))
      have HPS := Lib.hid (putP_succ (uniP (l.take i)) (q * 4 ^ h))
      have HL := Lib.hid (And.intro hlt hk)
      have HBX := Lib.hid (And.intro hB hX)
      have HC1 := Lib.hid c1
      rw [← hB.cell hb] at c0 c1
      have hmul : (q : Int) * ((4 ^ h : Nat) : Int) = ((q * 4 ^ h : Nat) : Int) := by simp
      have HSF := Lib.hid set_true
      clear hB hX e1 e2 hq hh
      generalize uniP (l.take i) = U at *
      generalize 4 ^ h = wh at *
      generalize q * wh = a at *
      generalize (4 : Int) - (h : Int) = o4 at *
      go_wp2_with (go_at_call 56; refine (HWI.out _).mono ?_; rintro e w2 ⟨rfl, h2⟩)
      clear c0 c1
      go_loopg [6] wh (fun gk t wi => ∃ j : Nat, t = .int .i64 j ∧ j ≤ wh ∧ wh - j ≤ gk ∧ Below w.heap.size w wi ∧ BoxA wi g (putP U a j))
      case atStart => exact ⟨0, rfl, by omega, by omega, HBX.out.1.trs h2, by rw [HPZ.out]; exact HBX.out.2.on h2⟩
      case round =>
        obtain ⟨j, rfl, hj, hkj, hB, hX⟩ := hrel
        obtain ⟨wi, rfl⟩ : ∃ wi : World, wi = wr := ⟨_, rfl⟩
        by_cases hlj : j < wh
        · have hljI : (j : Int) < (wh : Int) := by omega
          have c1 := (hB.cell (p := ⟨b, o + i * 2 + 1, none⟩) hb).trans HC1.out
          have cc := hX.cell (i := a + j) (by omega)
          have cf := hX.frozen (a + j)
          have HST := Lib.hid (hX.set_ (a + j) true)
          have HPJ := Lib.hid (HPS.out j)
          have HBJ := Lib.hid hB
          have HLJ := Lib.hid (And.intro hlj hkj)
          clear hB hX
          generalize putP U a j (a + j) = old at *
          go_wp2
          go_roundg (wh - (j + 1))
          case measure => have := HLJ.out; omega
          case rel => exact ⟨j + 1, by go_num, by have := HLJ.out; omega, by have := HLJ.out; omega, HBJ.out.setCell (p := ⟨g, a + j, none⟩) HG.out _, by rw [← HPJ.out, ← HSF.out]; exact HST.out⟩
        · obtain rfl : j = wh := by omega
          have hljI : ¬ (j : Int) < (j : Int) := by omega
          rw [HPC.out, HUI.out] at hX
          have HBJ := Lib.hid (And.intro hB hX)
          clear hB hX
          go_wp2
          go_roundg (n - (i + 1))
          case measure => have := HL.out; omega
          case rel => exact ⟨i + 1, by go_num, by have := HL.out; omega, by have := HL.out; omega, HBJ.out.1, HBJ.out.2⟩
    · obtain rfl : i = n := by omega
      have hltI : ¬ (i : Int) < (i : Int) := by omega
      rw [HTL.out] at hX
      go_wp2
      go_ret
      exact ⟨g, rfl, HG.out, hB, hX⟩
end Go.Proofs.Ytgbpmleipdecgaa
