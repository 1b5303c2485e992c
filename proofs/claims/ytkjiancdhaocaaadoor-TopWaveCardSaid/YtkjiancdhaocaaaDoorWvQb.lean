/- Walks over package wave: reading. -/
import Derived.Test.YtkjiancdhaocaaaDoorWvQa
import Derived.Test.YtkjiancdhaocaaaDoorWvWb
import Derived.Test.YtkjiancdhaocaaaDoorLib2
namespace Go.Proofs.YtkjiancdhaocaaaDoor
open Go.RowKit Go.Shelf
set_option linter.unusedSimpArgs false
set_option linter.unusedVariables false
attribute [local go_sem] Oper.semAt_some

theorem OwnI.setFar {w : World} {B : Nat} {e : TypeId} {v : Value} {l : List Int} (h : OwnI w B e v l) {g : Nat} (hg : g < B) (i : Nat) (x : Value) : OwnI (w.setCell ⟨g, i, none⟩ x) B e v l := by
  have h' : w.ownsRow B e 1 v l.length (l.map (Value.int .i64)) := h
  refine h'.kept (row := some g) ⟨by simp [World.setCell], by simp [World.setCell], by simp [World.setCell], by simp [World.setCell], fun k hk hne => Below.heap_setCell w ⟨g, i, none⟩ x k (by intro e; exact hne (by rw [e]))⟩ ?_
  cases hu : v.ownBlock with
  | none => exact .inl rfl
  | some b => exact .inr (fun e => by have := (World.ownsRow.lt h' b hu).1; injection e with e; omega)
theorem OwnI.ne {w : World} {B : Nat} {e : TypeId} {v : Value} {l : List Int} (h : OwnI w B e v l) {g : Nat} (hg : g < B) : v.ownBlock ≠ some g := fun e => by
  have := (World.ownsRow.lt (show w.ownsRow B _ 1 v l.length (l.map (Value.int .i64)) from h) g e).1
  omega
theorem setCell_size (w : World) (p : Addr) (x : Value) : (w.setCell p x).heap.size = w.heap.size := by simp
theorem OwnI.slc {w : World} {B : Nat} {e : TypeId} {v : Value} {l : List Int} (h : OwnI w B e v l) : ∃ A n c, v = .slice A n c := by
  obtain ⟨A, c, h1, -⟩ := h.rd
  exact ⟨A, _, c, h1⟩
/-- the memory of reading -/
structure OutR (w : World) (b2 b4 b5 B : Nat) (ds ws : List Int) (ch : Nat) : Prop where
  out : ∃ u v, Box w b4 55 #[u, v, .int .i64 ch] ∧ OwnI w B 3 u ds ∧ OwnI w B 3 v ws ∧ Apart2 u v
  res : Box w b2 55 #[.slice none 0 0, .slice none 0 0, .int .i64 0]
  wid : Box w b5 47 widV
  le : B ≤ w.heap.size
/-- what reading hands back -/
def RdQ (t : Tx) (w : World) (e : Ending) (w' : World) : Prop := Below w.heap.size w w' ∧ ∃ A n c A2 n2 c2 ch ok, e = .returned (.tuple #[.agg #[.slice A n c, .slice A2 n2 c2, .int .i64 ch], .bool ok]) ∧
  ((ok = false ∧ deO t = none) ∨ (ok = true ∧ ∃ d ws m, deO t = some (d, ws, m) ∧ n = d.length ∧ n2 = ws.length ∧ ch = (m : Nat) ∧ d.length ≤ 1000 ∧ OwnI w' w.heap.size 3 (.slice A n c) d ∧ OwnI w' w.heap.size 3 (.slice A2 n2 c2) ws))
theorem ext_take (t : Tx) (n : Nat) : (⟨t.toArray⟩ : ByteArray).extract 0 n = ⟨(t.take n).toArray⟩ := by
  apply ByteArray.ext
  rw [ByteArray.data_extract]
  simp
theorem ext_drop (t : Tx) (n : Nat) : (⟨t.toArray⟩ : ByteArray).extract n t.length = ⟨(t.drop n).toArray⟩ := by
  apply ByteArray.ext
  rw [ByteArray.data_extract]
  simp
  exact List.take_of_length_le (by simp)
theorem bits_take {t : Tx} (h : bitsB t = true) (n : Nat) : bitsB (t.take n) = true := by
  unfold bitsB at *
  rw [List.all_eq_true] at *
  exact fun c hc => h c (List.mem_of_mem_take hc)
theorem bits_drop {t : Tx} (h : bitsB t = true) (n : Nat) : bitsB (t.drop n) = true := by
  unfold bitsB at *
  rw [List.all_eq_true] at *
  exact fun c hc => h c (List.mem_of_mem_drop hc)
theorem head_bt {t : Tx} (h : 0 < t.length) : t.head? = some 49 ↔ bt t 0 = 49 := by
  cases t with
  | nil => simp at h
  | cons c t =>
    unfold bt
    simp only [List.head?_cons, Option.some.injEq, List.getElem?_cons_zero, Option.getD_some]
    constructor
    · rintro rfl; rfl
    · intro e; exact UInt8.toNat_inj.1 (show c.toNat = 49 by omega)
theorem RdQ.no {t : Tx} {w w' : World} (h : deO t = none) (hb : Below w.heap.size w w') (A : Option Addr) (n c : Nat) (A2 : Option Addr) (n2 c2 : Nat) (ch : Int) : RdQ t w (.returned (.tuple #[.agg #[.slice A n c, .slice A2 n2 c2, .int .i64 ch], .bool false])) w' :=
  ⟨hb, A, n, c, A2, n2, c2, ch, false, rfl, .inl ⟨rfl, h⟩⟩
set_option maxRecDepth 100000 in
set_option maxHeartbeats 8000000 in
theorem reading_any (t : Tx) (w : World) (hb : bitsB t = true) (hl : t.length ≤ 1000) :
    Calls Tryd.prog 36 #[.string ⟨t.toArray⟩] w (RdQ t w) := by
  have HWI := Lib.hid widths_any
  unfold widV at HWI
  generalize hR : RdQ t w = R
  have HRR := Lib.hid hR
  clear hR
  go_enter Tryd.func36, Tryd.ntmps36
  go_upto_region 2 with (fail)
  have hx4 := Box.new (w.alloc (.cells #[.slice none 0 0, .slice none 0 0, .int .i64 0] 55)) 55 #[.slice none 0 0, .slice none 0 0, .int .i64 0]
  have hx2 := (Box.new w 55 #[.slice none 0 0, .slice none 0 0, .int .i64 0]).on (below_alloc _ (.cells #[.slice none 0 0, .slice none 0 0, .int .i64 0] 55))
  have hb2 := (below_alloc w (.cells #[.slice none 0 0, .slice none 0 0, .int .i64 0] 55)).trs (below_alloc _ (.cells #[.slice none 0 0, .slice none 0 0, .int .i64 0] 55))
  rw [World.size_alloc] at hx4
  have hs2 : ((w.alloc (.cells #[.slice none 0 0, .slice none 0 0, .int .i64 0] 55)).alloc (.cells #[.slice none 0 0, .slice none 0 0, .int .i64 0] 55)).heap.size = w.heap.size + 1 + 1 := by rw [World.size_alloc, World.size_alloc]
  generalize (w.alloc (.cells #[.slice none 0 0, .slice none 0 0, .int .i64 0] 55)).alloc (.cells #[.slice none 0 0, .slice none 0 0, .int .i64 0] 55) = w2 at *
  go_upto_region 3 with (go_at_call 25; refine (HWI.out _).mono ?_; rintro e w3 ⟨rfl, h3⟩)
  have hx5 := Box.new w3 47 #[.int .i64 1, .int .i64 2, .int .i64 3, .int .i64 6, .int .i64 11]
  have hb5 := below_alloc w3 (.cells #[.int .i64 1, .int .i64 2, .int .i64 3, .int .i64 6, .int .i64 11] 47)
  replace hx2 := (hx2.on h3).on hb5
  replace hx4 := (hx4.on h3).on hb5
  replace hb2 := (hb2.trs h3).trs hb5
  have hsz : w.heap.size + 1 < w3.heap.size := by have := h3.size; omega
  generalize w3.alloc (.cells #[.int .i64 1, .int .i64 2, .int .i64 3, .int .i64 6, .int .i64 11] 47) = w4 at *
  have hsz5 : w3.heap.size < w4.heap.size := hx5.lt
  obtain ⟨b2, hb2e⟩ : ∃ b2, b2 = w.heap.size := ⟨_, rfl⟩
  obtain ⟨b4, hb4e⟩ : ∃ b4, b4 = w.heap.size + 1 := ⟨_, rfl⟩
  obtain ⟨b5, hb5e⟩ : ∃ b5, b5 = w3.heap.size := ⟨_, rfl⟩
  have H4 : Hid (OutR w4 b2 b4 b5 w4.heap.size [] [] 0 ∧ Below b2 w w4) := Lib.hid ⟨⟨⟨_, _, by rw [hb4e]; exact hx4, OwnI.nil _ _ _, OwnI.nil _ _ _, Apart2.nil_left _⟩, by rw [hb2e]; exact hx2, by rw [hb5e]; exact hx5, Nat.le_refl _⟩, by rw [hb2e]; exact hb2⟩
  rw [← hb4e, ← hb2e, ← hb5e]
  have HBE := Lib.hid hb2e
  have hlt1 : b2 < b4 := by omega
  have hlt2 : b4 < b5 := by omega
  have hlt3 : b5 < w4.heap.size := by omega
  have hlt4 : b4 < w4.heap.size := by omega
  clear hx2 hx4 hb2 hx5 hb5 h3 hsz hsz5 hs2 hb2e hb4e hb5e
  generalize hB0 : w4.heap.size = B at *
  clear hB0
  have HT := Lib.hid (And.intro hb hl)
  have HRN := Lib.hid (fun lo k ds ws ch => rd_nil lo k ds ws ch)
  have HNM := Lib.hid (fun t W h1 h2 => number_any t W h1 h2)
  have HHA := Lib.hid (fun k d W => has_any (wid k) d W (wid_ok k))
  have HBT := Lib.hid (fun x W => wvbetween_any 0 x 4 W)
  have HTOT : Hid (addR [] [] 0 (rdF false t 2) = rdF false t 2) := Lib.hid (addR_nil _)
  clear hb
  go_wp2
  go_loopg [0, 6, 7] (t.length + 1) (fun gk s u v wr => ∃ (tc : Tx) (k : Nat) (lo : Bool) (ds ws : List Int) (ch : Nat), s = .string ⟨tc.toArray⟩ ∧ u = .int .i64 k ∧ v = .bool lo ∧ k < 5 ∧ tc.length ≤ gk ∧ bitsB tc = true ∧ ds.length + tc.length ≤ 1000 ∧ ws.length + tc.length ≤ 1000 ∧ ch + tc.length ≤ 1000 ∧ rdF false t 2 = addR ds ws ch (rdF lo tc k) ∧ OutR wr b2 b4 b5 B ds ws ch ∧ Below b2 w wr)
  case atStart => exact ⟨t, 2, false, [], [], 0, rfl, rfl, rfl, by omega, by omega, HT.out.1, by simp; omega, by simp; omega, by omega, HTOT.out.symm, H4.out.1, H4.out.2⟩
  case round =>
    obtain ⟨tc, k, lo, ds, ws, ch, rfl, rfl, rfl, hk, hgk, hbt, hld, hlw, hlc, htot, hO, hB⟩ := hrel
    have hsz := size_bt tc
    by_cases h0 : tc.length = 0
    · obtain ⟨⟨u, v, hx4, hou, hov, hap⟩, hx2, hx5, hle⟩ := hO
      obtain rfl : tc = [] := List.length_eq_zero_iff.1 h0
      have hT := htot.trans (HRN.out lo k ds ws ch)
      have HDE := Lib.hid (deO_some hT)
      obtain ⟨Au, cu, rfl, hr1⟩ := hou.rd
      obtain ⟨Av, cv, rfl, hr2⟩ := hov.rd
      have HSM := Lib.hid (samples_any Au cu ds wr hr1 (by simp at hld; omega))
      unfold SamQ at HSM
      have c0 := hx4.cell 0
      have HX4 := Lib.hid hx4
      have HX2 := Lib.hid hx2
      have HBw := Lib.hid hB
      have HOU := Lib.hid (And.intro hou hov)
      have hltB : b2 < B := by omega
      have HLD : Hid (ds.length ≤ 1000) := Lib.hid (by simp at hld; omega)
      clear hx4 hx2 hB hou hov hap hx5 htot hr1 hr2 hT hld hlw hlc hbt h0 hsz
      generalize hnu : ds.length = nu at *
      generalize hnv : ws.length = nv at *
      have HNN := Lib.hid (And.intro hnu hnv)
      clear hnu hnv
      cases hsm : smpOk ds
      · rw [hsm] at HSM
        have HSMF := Lib.hid hsm
        clear hsm
        cases lo
        all_goals
          go_wp2_with (go_at_call 34; refine HSM.out.mono ?_; rintro e w5 ⟨h5, A5, n5, c5, rfl, -⟩; have y4 := HX4.out.on h5; have y2 := HX2.out.on h5; have c05 := y4.cell 0; have c15 := y4.cell 1; have c25 := y4.cell 2; have r0 := y2.cell 0; have r1 := y2.cell 1; have r2 := y2.cell 2; have g0 := y2.frozen 0; have g1 := y2.frozen 1; have g2 := y2.frozen 2; have HX : Hid (_ ∧ Below b2 w w5) := Lib.hid (And.intro y2 (HBw.out.trans (h5.mono (by have := HX2.out.lt; omega)))); clear y2 y4)
          obtain ⟨wf, hwf⟩ : ∃ wf, wf = (((w5.setCell ⟨b2, 0, none⟩ (.slice Au nu cu)).setCell ⟨b2, 1, none⟩ (.slice Av nv cv)).setCell ⟨b2, 2, none⟩ (.int .i64 (ch : Int))) := ⟨_, rfl⟩
          rw [← hwf]
          have BX := ((HX.out.1.set_ 0 (.slice Au nu cu)).set_ 1 (.slice Av nv cv)).set_ 2 (.int .i64 (ch : Int))
          rw [← hwf] at BX
          have e0 : wf.cell? ⟨b2, 0, none⟩ = some (.slice Au nu cu) := BX.cell 0
          have e1 : wf.cell? ⟨b2, 1, none⟩ = some (.slice Av nv cv) := BX.cell 1
          have e2 : wf.cell? ⟨b2, 2, none⟩ = some (.int .i64 (ch : Int)) := BX.cell 2
          have HBF : Below b2 w wf := by rw [hwf]; exact ((HX.out.2.setCell (p := ⟨b2, 0, none⟩) (Nat.le_refl _) _).setCell (p := ⟨b2, 1, none⟩) (Nat.le_refl _) _).setCell (p := ⟨b2, 2, none⟩) (Nat.le_refl _) _
          refine bodyPost_ret (v := .tuple #[.agg #[.slice Au nu cu, .slice Av nv cv, .int .i64 (ch : Int)], .bool false]) (by simp [results, Tryd.results36, go_sem, e0, e1, e2]) rfl ?_
          rw [← HRR.out]
          rw [HBE.out] at HBF
          exact RdQ.no (by rw [HDE.out, HSMF.out]; simp) HBF _ _ _ _ _ _ _
      · rw [hsm] at HSM
        have HSMF := Lib.hid hsm
        clear hsm
        cases lo
        · go_wp2_with (go_at_call 34; refine HSM.out.mono ?_; rintro e w5 ⟨h5, A5, n5, c5, rfl, -⟩; have y4 := HX4.out.on h5; have y2 := HX2.out.on h5; have c05 := y4.cell 0; have c15 := y4.cell 1; have c25 := y4.cell 2; have r0 := y2.cell 0; have r1 := y2.cell 1; have r2 := y2.cell 2; have g0 := y2.frozen 0; have g1 := y2.frozen 1; have g2 := y2.frozen 2; have HX : Hid (_ ∧ Below b2 w w5) := Lib.hid (And.intro y2 (HBw.out.trans (h5.mono (by have := HX2.out.lt; omega)))); clear y2 y4)
          obtain ⟨wf, hwf⟩ : ∃ wf, wf = (((w5.setCell ⟨b2, 0, none⟩ (.slice Au nu cu)).setCell ⟨b2, 1, none⟩ (.slice Av nv cv)).setCell ⟨b2, 2, none⟩ (.int .i64 (ch : Int))) := ⟨_, rfl⟩
          rw [← hwf]
          have BX := ((HX.out.1.set_ 0 (.slice Au nu cu)).set_ 1 (.slice Av nv cv)).set_ 2 (.int .i64 (ch : Int))
          rw [← hwf] at BX
          have e0 : wf.cell? ⟨b2, 0, none⟩ = some (.slice Au nu cu) := BX.cell 0
          have e1 : wf.cell? ⟨b2, 1, none⟩ = some (.slice Av nv cv) := BX.cell 1
          have e2 : wf.cell? ⟨b2, 2, none⟩ = some (.int .i64 (ch : Int)) := BX.cell 2
          have HBF : Below b2 w wf := by rw [hwf]; exact ((HX.out.2.setCell (p := ⟨b2, 0, none⟩) (Nat.le_refl _) _).setCell (p := ⟨b2, 1, none⟩) (Nat.le_refl _) _).setCell (p := ⟨b2, 2, none⟩) (Nat.le_refl _) _
          refine bodyPost_ret (v := .tuple #[.agg #[.slice Au nu cu, .slice Av nv cv, .int .i64 (ch : Int)], .bool true]) (by simp [results, Tryd.results36, go_sem, e0, e1, e2]) rfl ?_
          rw [← HRR.out]
          rw [HBE.out] at HBF
          have o1 := ((((HOU.out.1.kept h5).setFar hltB 0 (.slice Au nu cu)).setFar hltB 1 (.slice Av nv cv)).setFar hltB 2 (.int .i64 (ch : Int)))
          have o2 := ((((HOU.out.2.kept h5).setFar hltB 0 (.slice Au nu cu)).setFar hltB 1 (.slice Av nv cv)).setFar hltB 2 (.int .i64 (ch : Int)))
          rw [← hwf] at o1 o2
          exact ⟨HBF, Au, _, cu, Av, _, cv, ch, true, rfl, .inr ⟨rfl, ds, ws, ch, by rw [HDE.out, HSMF.out]; simp, HNN.out.1.symm, HNN.out.2.symm, rfl, by rw [HNN.out.1]; exact HLD.out, o1.less (by rw [← HBE.out]; omega), o2.less (by rw [← HBE.out]; omega)⟩⟩
        · go_wp2_with (go_at_call 34; refine HSM.out.mono ?_; rintro e w5 ⟨h5, A5, n5, c5, rfl, -⟩; have y4 := HX4.out.on h5; have y2 := HX2.out.on h5; have c05 := y4.cell 0; have c15 := y4.cell 1; have c25 := y4.cell 2; have r0 := y2.cell 0; have r1 := y2.cell 1; have r2 := y2.cell 2; have g0 := y2.frozen 0; have g1 := y2.frozen 1; have g2 := y2.frozen 2; have HX : Hid (_ ∧ Below b2 w w5) := Lib.hid (And.intro y2 (HBw.out.trans (h5.mono (by have := HX2.out.lt; omega)))); clear y2 y4)
          obtain ⟨wf, hwf⟩ : ∃ wf, wf = (((w5.setCell ⟨b2, 0, none⟩ (.slice Au nu cu)).setCell ⟨b2, 1, none⟩ (.slice Av nv cv)).setCell ⟨b2, 2, none⟩ (.int .i64 (ch : Int))) := ⟨_, rfl⟩
          rw [← hwf]
          have BX := ((HX.out.1.set_ 0 (.slice Au nu cu)).set_ 1 (.slice Av nv cv)).set_ 2 (.int .i64 (ch : Int))
          rw [← hwf] at BX
          have e0 : wf.cell? ⟨b2, 0, none⟩ = some (.slice Au nu cu) := BX.cell 0
          have e1 : wf.cell? ⟨b2, 1, none⟩ = some (.slice Av nv cv) := BX.cell 1
          have e2 : wf.cell? ⟨b2, 2, none⟩ = some (.int .i64 (ch : Int)) := BX.cell 2
          have HBF : Below b2 w wf := by rw [hwf]; exact ((HX.out.2.setCell (p := ⟨b2, 0, none⟩) (Nat.le_refl _) _).setCell (p := ⟨b2, 1, none⟩) (Nat.le_refl _) _).setCell (p := ⟨b2, 2, none⟩) (Nat.le_refl _) _
          refine bodyPost_ret (v := .tuple #[.agg #[.slice Au nu cu, .slice Av nv cv, .int .i64 (ch : Int)], .bool false]) (by simp [results, Tryd.results36, go_sem, e0, e1, e2]) rfl ?_
          rw [← HRR.out]
          rw [HBE.out] at HBF
          exact RdQ.no (by rw [HDE.out, HSMF.out]; simp) HBF _ _ _ _ _ _ _
    · have h0I : (0 : Int) < (tc.length : Int) := by omega
      obtain ⟨⟨u, v, hx4, hou, hov, hap⟩, hx2, hx5, hle⟩ := hO
      have hc5 : wr.cell? ⟨b5, k, none⟩ = some (.int .i64 (wid k)) := by
        rw [Box.cell hx5]
        have : k = 0 ∨ k = 1 ∨ k = 2 ∨ k = 3 ∨ k = 4 := by omega
        rcases this with rfl | rfl | rfl | rfl | rfl <;> rfl
      have hk0 : (0 : Int) ≤ (k : Int) := by omega
      have hk5 : (k : Int) < 5 := by omega
      have hok := wid_ok k
      have hw11 := okW_le hok
      by_cases hsh : tc.length < wid k
      · have hE := rd_short (lo := lo) h0 hsh ds ws ch
        have hshI : (tc.length : Int) < (wid k : Int) := by omega
        obtain ⟨Au, nu, cu, rfl⟩ := hou.slc
        obtain ⟨Av, nv, cv, rfl⟩ := hov.slc
        have c0 := hx4.cell 0
        have c1 := hx4.cell 1
        have c2 := hx4.cell 2
        have r0 := hx2.cell 0
        have r1 := hx2.cell 1
        have r2 := hx2.cell 2
        have g0 := hx2.frozen 0
        have g1 := hx2.frozen 1
        have g2 := hx2.frozen 2
        have HX := Lib.hid (And.intro hx2 hB)
        have HTO := Lib.hid htot
        clear hx4 hou hov hx2 hx5 hB htot
        go_wp2
        obtain ⟨wf, hwf⟩ : ∃ wf, wf = (((wr.setCell ⟨b2, 0, none⟩ (.slice Au nu cu)).setCell ⟨b2, 1, none⟩ (.slice Av nv cv)).setCell ⟨b2, 2, none⟩ (.int .i64 (ch : Int))) := ⟨_, rfl⟩
        rw [← hwf]
        have BX := ((HX.out.1.set_ 0 (.slice Au nu cu)).set_ 1 (.slice Av nv cv)).set_ 2 (.int .i64 (ch : Int))
        rw [← hwf] at BX
        have e0 : wf.cell? ⟨b2, 0, none⟩ = some (.slice Au nu cu) := BX.cell 0
        have e1 : wf.cell? ⟨b2, 1, none⟩ = some (.slice Av nv cv) := BX.cell 1
        have e2 : wf.cell? ⟨b2, 2, none⟩ = some (.int .i64 (ch : Int)) := BX.cell 2
        have HBF : Below b2 w wf := by rw [hwf]; exact ((HX.out.2.setCell (p := ⟨b2, 0, none⟩) (Nat.le_refl _) _).setCell (p := ⟨b2, 1, none⟩) (Nat.le_refl _) _).setCell (p := ⟨b2, 2, none⟩) (Nat.le_refl _) _
        refine bodyPost_ret (v := .tuple #[.agg #[.slice Au nu cu, .slice Av nv cv, .int .i64 (ch : Int)], .bool false]) (by simp [results, Tryd.results36, go_sem, e0, e1, e2]) rfl ?_
        rw [← HRR.out]
        rw [HBE.out] at HBF
        exact RdQ.no (deO_none (HTO.out.trans hE)) HBF _ _ _ _ _ _ _
      · have hex1 := ext_take tc (wid k)
        have hex2 := ext_drop tc (wid k)
        have htl : (tc.take (wid k)).length = wid k := by rw [List.length_take]; omega
        have HNk := Lib.hid (fun W => HNM.out (tc.take (wid k)) W (bits_take hbt _) (by rw [htl]; exact hok))
        have HHk := Lib.hid (fun d W => HHA.out k d W)
        have hshI : ¬ (tc.length : Int) < (wid k : Int) := by omega
        have hwI : (wid k : Int) ≤ (tc.length : Int) := by omega
        have hw0 : (0 : Int) ≤ (wid k : Int) := by omega
        cases hcan : canD (wid k) (numB (tc.take (wid k)))
        · have HHc := Lib.hid (HHk.out (numB (tc.take (wid k))))
          rw [hcan] at HHc
          obtain ⟨Au, nu, cu, rfl⟩ := hou.slc
          obtain ⟨Av, nv, cv, rfl⟩ := hov.slc
          have c0 := hx4.cell 0
          have c1 := hx4.cell 1
          have c2 := hx4.cell 2
          have f2 := hx4.frozen 2
          have r0 := hx2.cell 0
          have r1 := hx2.cell 1
          have r2 := hx2.cell 2
          have g0 := hx2.frozen 0
          have g1 := hx2.frozen 1
          have g2 := hx2.frozen 2
          have HX := Lib.hid (And.intro hx2 hB)
          have HO := Lib.hid (And.intro hx4 (And.intro hou (And.intro hov (And.intro hap (And.intro hx5 hle)))))
          have HTO := Lib.hid htot
          have hcw : tc.length = wid k ∨ wid k < tc.length := by omega
          clear HHk hx4 hou hov hap hx2 hx5 hB htot
          rcases hcw with hcw | hcw
          · have hE := rd_stop (lo := lo) h0 hcw hcan ds ws ch
            have hT2 : tc.drop (wid k) = [] := List.drop_eq_nil_of_le (by omega)
            rw [hT2] at hex2
            clear hcan
            generalize numB (tc.take (wid k)) = N at *
            generalize tc.take (wid k) = T1 at *
            go_wp2_with (first
              | (go_at_call 55; refine (HNk.out _).mono ?_; rintro e w5 ⟨rfl, rfl⟩)
              | (go_at_call 28; refine (HHc.out _).mono ?_; rintro e w6 ⟨rfl, rfl⟩))
            obtain ⟨wf, hwf⟩ : ∃ wf, wf = (((w6.setCell ⟨b2, 0, none⟩ (.slice Au nu cu)).setCell ⟨b2, 1, none⟩ (.slice Av nv cv)).setCell ⟨b2, 2, none⟩ (.int .i64 (ch : Int))) := ⟨_, rfl⟩
            rw [← hwf]
            have BX := ((HX.out.1.set_ 0 (.slice Au nu cu)).set_ 1 (.slice Av nv cv)).set_ 2 (.int .i64 (ch : Int))
            rw [← hwf] at BX
            have e0 : wf.cell? ⟨b2, 0, none⟩ = some (.slice Au nu cu) := BX.cell 0
            have e1 : wf.cell? ⟨b2, 1, none⟩ = some (.slice Av nv cv) := BX.cell 1
            have e2 : wf.cell? ⟨b2, 2, none⟩ = some (.int .i64 (ch : Int)) := BX.cell 2
            have HBF : Below b2 w wf := by rw [hwf]; exact ((HX.out.2.setCell (p := ⟨b2, 0, none⟩) (Nat.le_refl _) _).setCell (p := ⟨b2, 1, none⟩) (Nat.le_refl _) _).setCell (p := ⟨b2, 2, none⟩) (Nat.le_refl _) _
            refine bodyPost_ret (v := .tuple #[.agg #[.slice Au nu cu, .slice Av nv cv, .int .i64 (ch : Int)], .bool false]) (by simp [results, Tryd.results36, go_sem, e0, e1, e2]) rfl ?_
            rw [← HRR.out]
            rw [HBE.out] at HBF
            exact RdQ.no (deO_none (HTO.out.trans hE)) HBF _ _ _ _ _ _ _
          · have hT2l : (tc.drop (wid k)).length = tc.length - wid k := List.length_drop
            have hb2' := bits_drop hbt (wid k)
            have hT3 : (tc.drop (wid k)).drop 1 = tc.drop (wid k + 1) := by rw [List.drop_drop]
            have hup := fun h9 => rd_up (lo := lo) hcw hcan h9 ds ws ch
            have hdn := fun h9 => rd_down (lo := lo) hcw hcan h9 ds ws ch
            rw [← hT3] at hup hdn
            rw [head_bt (by omega)] at hup
            rw [show ((tc.drop (wid k)).head? ≠ some 49) = (bt (tc.drop (wid k)) 0 ≠ 49) by rw [ne_eq, head_bt (by omega)]] at hdn
            have hb01 := bt_bits hb2' (i := 0) (by omega)
            have HB3 := Lib.hid (And.intro (bits_drop hb2' 1) (show ((tc.drop (wid k)).drop 1).length = tc.length - wid k - 1 by rw [List.length_drop]; omega))
            have hget := get_bt (tc.drop (wid k)) 0
            have hex3 := ext_drop (tc.drop (wid k)) 1
            have hszT := size_bt (tc.drop (wid k))
            have htlT : (⟨(tc.drop (wid k)).toArray⟩ : ByteArray).toList = tc.drop (wid k) := ByteArray.toList_mk _
            have hne : (tc.drop (wid k) == []) = false := by
              rw [beq_eq_false_iff_ne]
              intro e
              rw [e] at hT2l
              simp at hT2l
              omega
            have hpos : 0 < (tc.drop (wid k)).length := by omega
            have hposI : (0 : Int) < ((tc.drop (wid k)).length : Int) := by omega
            have hpos1 : (1 : Int) ≤ ((tc.drop (wid k)).length : Int) := by omega
            clear hcan hb2' hT3 hbt hT2l
            generalize numB (tc.take (wid k)) = N at *
            generalize tc.take (wid k) = T1 at *
            generalize tc.drop (wid k) = T2 at *
            generalize T2.drop 1 = T3 at *
            rcases hb01 with hx | hx
            · rw [hx] at hget
              have hE0 := hdn (by rw [hx]; decide)
              have HB1 : Hid (∀ W, Calls Tryd.prog 40 #[.int .i64 0, .int .i64 ((k : Int) + -1), .int .i64 4] W fun e w' => e = .returned (.bool (decide (0 < k))) ∧ w' = W) := Lib.hid (fun W => by
                have := HBT.out ((k : Int) + -1) W
                rwa [show btw 0 ((k : Int) + -1) 4 = decide (0 < k) by unfold btw; rw [Bool.eq_iff_iff]; simp; omega] at this)
              clear hup hdn hx
              by_cases hk1 : 0 < k
              · rw [if_pos hk1] at hE0
                rw [show decide (0 < k) = true from decide_eq_true hk1] at HB1
                go_wp2_with (first
                  | (go_at_call 55; refine (HNk.out _).mono ?_; rintro e w5 ⟨rfl, rfl⟩)
                  | (go_at_call 28; refine (HHc.out _).mono ?_; rintro e w6 ⟨rfl, rfl⟩)
                  | (go_at_call 40; refine (HB1.out _).mono ?_; rintro e w7 ⟨rfl, rfl⟩))
                go_roundg T3.length
                case measure => have := HB3.out.2; omega
                case rel =>
                  obtain ⟨hx4, hou, hov, hap, hx5, hle⟩ := HO.out
                  have hT3l := HB3.out.2
                  exact ⟨T3, k - 1, true, ds, ws, ch + 1, by first | rfl | rw [hex3], by rw [show (k : Int) + -1 = ((k - 1 : Nat) : Int) by omega], rfl, by omega, Nat.le_refl _, HB3.out.1, by omega, by omega, by omega, HTO.out.trans hE0, ⟨⟨_, _, by have := hx4.set_ 2 (.int .i64 ((ch : Int) + 1)); simpa using this, hou.setFar hlt4 2 _, hov.setFar hlt4 2 _, hap⟩, HX.out.1.far (p := ⟨b4, 2, none⟩) (by simp; omega) _, hx5.far (p := ⟨b4, 2, none⟩) (by simp; omega) _, by rw [setCell_size]; exact hle⟩, HX.out.2.setCell (p := ⟨b4, 2, none⟩) (by simp; omega) _⟩
              · rw [if_neg hk1] at hE0
                rw [show decide (0 < k) = false from decide_eq_false hk1] at HB1
                go_wp2_with (first
                  | (go_at_call 55; refine (HNk.out _).mono ?_; rintro e w5 ⟨rfl, rfl⟩)
                  | (go_at_call 28; refine (HHc.out _).mono ?_; rintro e w6 ⟨rfl, rfl⟩)
                  | (go_at_call 40; refine (HB1.out _).mono ?_; rintro e w7 ⟨rfl, rfl⟩))
                obtain ⟨wf, hwf⟩ : ∃ wf, wf = (((w7.setCell ⟨b2, 0, none⟩ (.slice Au nu cu)).setCell ⟨b2, 1, none⟩ (.slice Av nv cv)).setCell ⟨b2, 2, none⟩ (.int .i64 (ch : Int))) := ⟨_, rfl⟩
                rw [← hwf]
                have BX := ((HX.out.1.set_ 0 (.slice Au nu cu)).set_ 1 (.slice Av nv cv)).set_ 2 (.int .i64 (ch : Int))
                rw [← hwf] at BX
                have e0 : wf.cell? ⟨b2, 0, none⟩ = some (.slice Au nu cu) := BX.cell 0
                have e1 : wf.cell? ⟨b2, 1, none⟩ = some (.slice Av nv cv) := BX.cell 1
                have e2 : wf.cell? ⟨b2, 2, none⟩ = some (.int .i64 (ch : Int)) := BX.cell 2
                have HBF : Below b2 w wf := by rw [hwf]; exact ((HX.out.2.setCell (p := ⟨b2, 0, none⟩) (Nat.le_refl _) _).setCell (p := ⟨b2, 1, none⟩) (Nat.le_refl _) _).setCell (p := ⟨b2, 2, none⟩) (Nat.le_refl _) _
                refine bodyPost_ret (v := .tuple #[.agg #[.slice Au nu cu, .slice Av nv cv, .int .i64 (ch : Int)], .bool false]) (by simp [results, Tryd.results36, go_sem, e0, e1, e2]) rfl ?_
                rw [← HRR.out]
                rw [HBE.out] at HBF
                exact RdQ.no (deO_none (HTO.out.trans hE0)) HBF _ _ _ _ _ _ _
            · rw [hx] at hget
              have hE0 := hup hx
              have HB1 : Hid (∀ W, Calls Tryd.prog 40 #[.int .i64 0, .int .i64 ((k : Int) + 1), .int .i64 4] W fun e w' => e = .returned (.bool (decide (k + 1 < 5))) ∧ w' = W) := Lib.hid (fun W => by
                have := HBT.out ((k : Int) + 1) W
                rwa [show btw 0 ((k : Int) + 1) 4 = decide (k + 1 < 5) by unfold btw; rw [Bool.eq_iff_iff]; simp; omega] at this)
              clear hup hdn hx
              by_cases hk1 : k + 1 < 5
              · rw [if_pos hk1] at hE0
                rw [show decide (k + 1 < 5) = true from decide_eq_true hk1] at HB1
                go_wp2_with (first
                  | (go_at_call 55; refine (HNk.out _).mono ?_; rintro e w5 ⟨rfl, rfl⟩)
                  | (go_at_call 28; refine (HHc.out _).mono ?_; rintro e w6 ⟨rfl, rfl⟩)
                  | (go_at_call 40; refine (HB1.out _).mono ?_; rintro e w7 ⟨rfl, rfl⟩))
                go_roundg T3.length
                case measure => have := HB3.out.2; omega
                case rel =>
                  obtain ⟨hx4, hou, hov, hap, hx5, hle⟩ := HO.out
                  have hT3l := HB3.out.2
                  exact ⟨T3, k + 1, true, ds, ws, ch + 1, by first | rfl | rw [hex3], by go_num, rfl, by omega, Nat.le_refl _, HB3.out.1, by omega, by omega, by omega, HTO.out.trans hE0, ⟨⟨_, _, by have := hx4.set_ 2 (.int .i64 ((ch : Int) + 1)); simpa using this, hou.setFar hlt4 2 _, hov.setFar hlt4 2 _, hap⟩, HX.out.1.far (p := ⟨b4, 2, none⟩) (by simp; omega) _, hx5.far (p := ⟨b4, 2, none⟩) (by simp; omega) _, by rw [setCell_size]; exact hle⟩, HX.out.2.setCell (p := ⟨b4, 2, none⟩) (by simp; omega) _⟩
              · rw [if_neg hk1] at hE0
                rw [show decide (k + 1 < 5) = false from decide_eq_false hk1] at HB1
                go_wp2_with (first
                  | (go_at_call 55; refine (HNk.out _).mono ?_; rintro e w5 ⟨rfl, rfl⟩)
                  | (go_at_call 28; refine (HHc.out _).mono ?_; rintro e w6 ⟨rfl, rfl⟩)
                  | (go_at_call 40; refine (HB1.out _).mono ?_; rintro e w7 ⟨rfl, rfl⟩))
                obtain ⟨wf, hwf⟩ : ∃ wf, wf = (((w7.setCell ⟨b2, 0, none⟩ (.slice Au nu cu)).setCell ⟨b2, 1, none⟩ (.slice Av nv cv)).setCell ⟨b2, 2, none⟩ (.int .i64 (ch : Int))) := ⟨_, rfl⟩
                rw [← hwf]
                have BX := ((HX.out.1.set_ 0 (.slice Au nu cu)).set_ 1 (.slice Av nv cv)).set_ 2 (.int .i64 (ch : Int))
                rw [← hwf] at BX
                have e0 : wf.cell? ⟨b2, 0, none⟩ = some (.slice Au nu cu) := BX.cell 0
                have e1 : wf.cell? ⟨b2, 1, none⟩ = some (.slice Av nv cv) := BX.cell 1
                have e2 : wf.cell? ⟨b2, 2, none⟩ = some (.int .i64 (ch : Int)) := BX.cell 2
                have HBF : Below b2 w wf := by rw [hwf]; exact ((HX.out.2.setCell (p := ⟨b2, 0, none⟩) (Nat.le_refl _) _).setCell (p := ⟨b2, 1, none⟩) (Nat.le_refl _) _).setCell (p := ⟨b2, 2, none⟩) (Nat.le_refl _) _
                refine bodyPost_ret (v := .tuple #[.agg #[.slice Au nu cu, .slice Av nv cv, .int .i64 (ch : Int)], .bool false]) (by simp [results, Tryd.results36, go_sem, e0, e1, e2]) rfl ?_
                rw [← HRR.out]
                rw [HBE.out] at HBF
                exact RdQ.no (deO_none (HTO.out.trans hE0)) HBF _ _ _ _ _ _ _
        · have HHc := Lib.hid (HHk.out (numB (tc.take (wid k))))
          rw [hcan] at HHc
          have hE := rd_word (lo := lo) h0 hsh hcan ds ws ch
          have c0 := hx4.cell 0
          have c1 := hx4.cell 1
          have f0 := hx4.frozen 0
          have f1 := hx4.frozen 1
          clear HHk
          generalize hN : numB (tc.take (wid k)) = N at *
          generalize tc.take (wid k) = T1 at *
          have hT2l : (tc.drop (wid k)).length = tc.length - wid k := List.length_drop
          have HT2 := Lib.hid (And.intro (bits_drop hbt (wid k)) hT2l)
          clear hT2l
          generalize tc.drop (wid k) = T2 at *
          have hdl : ds.length ≤ 1000000 := by omega
          have hwl : ws.length ≤ 1000000 := by omega
          have HX := Lib.hid (And.intro hx4 (And.intro hou (And.intro hov (And.intro hap (And.intro hx2 (And.intro hx5 (And.intro hle hB)))))))
          clear hx4 hou hov hap hx2 hx5 hB
          go_wp2_with (first
            | (go_at_call 55; refine (HNk.out _).mono ?_; rintro e w5 ⟨rfl, rfl⟩)
            | (go_at_call 28; refine (HHc.out _).mono ?_; rintro e w6 ⟨rfl, rfl⟩)
            | (have := hx7; refine wp_app_int2 22 rfl (.tmp 41) (.tmp 43) rfl Tryd.underlying22 infoInt (w7.setCell ⟨b4, 0, none⟩ (.slice A7 n7 c7)) B v ws (wid k : Int) rfl (by rw [setCell_size]; rfl) ((HX.out.2.2.1.spared hS7.out HX.out.2.2.2.1).setFar (by omega) 0 (.slice A7 n7 c7)) hwl (by rw [setCell_size]; exact Nat.le_trans HX.out.2.2.2.2.2.2.1 hS7.out.size) ?_; intro v8 w8 hO8 hB8 hS8 hF8; obtain ⟨A8, n8, c8, rfl⟩ := hO8.slc; have hx8 := Lib.hid ((hx7.out.set_ 0 (.slice A7 n7 c7)).spared hS8 (((HX.out.2.2.1.spared hS7.out HX.out.2.2.2.1).setFar (by omega) 0 (.slice A7 n7 c7)).ne (by omega))); replace hO8 := Lib.hid hO8; replace hB8 := Lib.hid hB8; replace hS8 := Lib.hid hS8; replace hF8 := Lib.hid hF8; have c18 := hx8.out.cell 1; have f18 := hx8.out.frozen 1)
            | (refine wp_app_int2 22 rfl (.tmp 35) (.tmp 37) rfl Tryd.underlying22 infoInt _ B u ds N rfl rfl HX.out.2.1 hdl hle ?_; intro v7 w7 hO7 hB7 hS7 hF7; obtain ⟨A7, n7, c7, rfl⟩ := hO7.slc; have hx7 := Lib.hid (HX.out.1.spared hS7 (HX.out.2.1.ne (by omega))); replace hO7 := Lib.hid hO7; replace hB7 := Lib.hid hB7; replace hS7 := Lib.hid hS7; replace hF7 := Lib.hid hF7; have c07 := hx7.out.cell 0; have c17 := hx7.out.cell 1; have f07 := hx7.out.frozen 0))
          have hT2l := HT2.out.2
          go_roundg T2.length
          case measure => omega
          case rel =>
            obtain ⟨hx4, hou, hov, hap, hx2, hx5, hle, hB⟩ := HX.out
            have o7 := hO7.out.setFar hlt4 0 (.slice A7 n7 c7)
            have hap7 : Apart2 v (.slice A7 n7 c7) := (hap.fresh hF7.out hov.block_lt).symm
            have hov7 := (hov.spared hS7.out hap).setFar hlt4 0 (.slice A7 n7 c7)
            have o8 := hO8.out.setFar hlt4 1 (.slice A8 n8 c8)
            refine ⟨T2, k, false, ds ++ [N], ws ++ [(wid k : Int)], ch, rfl, rfl, rfl, hk, Nat.le_refl _, HT2.out.1, by simp; omega, by simp; omega, by omega, by rw [htot, hE], ⟨⟨_, _, by simpa using hx8.out.set_ 1 (.slice A8 n8 c8), (o7.spared hS8.out hap7).setFar hlt4 1 _, o8, (hap7.fresh hF8.out o7.block_lt).symm⟩, ?_, ?_, ?_⟩, ?_⟩
            · exact (((hx2.spared hS7.out (hou.ne (by omega))).far (p := ⟨b4, 0, none⟩) (by simp; omega) _).spared hS8.out (hov7.ne (by omega))).far (p := ⟨b4, 1, none⟩) (by simp; omega) _
            · exact (((hx5.spared hS7.out (hou.ne (by omega))).far (p := ⟨b4, 0, none⟩) (by simp; omega) _).spared hS8.out (hov7.ne (by omega))).far (p := ⟨b4, 1, none⟩) (by simp; omega) _
            · rw [setCell_size]
              have h1 := hS8.out.size
              rw [setCell_size] at h1
              have h2 := hS7.out.size
              omega
            · exact (((hB.trans (hB7.out.mono (by omega))).setCell (p := ⟨b4, 0, none⟩) (by simp; omega) _).trans (hB8.out.mono (by omega))).setCell (p := ⟨b4, 1, none⟩) (by simp; omega) _
end Go.Proofs.YtkjiancdhaocaaaDoor
