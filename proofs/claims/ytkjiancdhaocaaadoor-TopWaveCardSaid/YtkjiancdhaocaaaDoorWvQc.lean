/- Walks over the reference of chapter wave: read. -/
import Derived.Test.YtkjiancdhaocaaaDoorWvQb
namespace Go.Proofs.YtkjiancdhaocaaaDoor
open Go.RowKit Go.Shelf
set_option linter.unusedSimpArgs false
set_option linter.unusedVariables false
attribute [local go_sem] Oper.semAt_some

theorem smpOk_nil : smpOk [] = false := by decide
theorem canD_num {t : Tx} {k : Nat} (h : t.length = wid k) : canD (wid k) (numB t) = !(numB t == -(hf (wid k))) := by
  have hn := numB_in (t := t) (by rw [h]; exact (okW_le (wid_ok k)).1)
  rw [h] at hn
  unfold canD
  rw [Bool.eq_iff_iff, btw_iff]
  simp
  omega
/-- no text of differences -/
def RfN (t : Tx) : Prop := rdF false t 2 = none ∨ ∃ d ws m lo, rdF false t 2 = some (d, ws, m, lo) ∧ (d = [] ∨ lo = true)
theorem RfN.deO {t : Tx} (h : RfN t) : deO t = none := by
  rcases h with h | ⟨d, ws, m, lo, h, h' | h'⟩
  · exact deO_none h
  · rw [deO_some h, h', smpOk_nil]; simp
  · rw [deO_some h, h']; simp
/-- what read hands back -/
def RfQ (t : Tx) (w : World) (e : Ending) (w' : World) : Prop := Below w.heap.size w w' ∧ ∃ A n c A2 n2 c2 ch ok, e = .returned (.tuple #[.slice A n c, .slice A2 n2 c2, .int .i64 ch, .bool ok]) ∧
  ((ok = false ∧ RfN t) ∨ (ok = true ∧ ∃ d ws m, rdF false t 2 = some (d, ws, m, false) ∧ d ≠ [] ∧ n = d.length ∧ n2 = ws.length ∧ ch = (m : Nat) ∧ d.length ≤ 1000 ∧ RdI w' w'.heap.size A d ∧ RdI w' w'.heap.size A2 ws))
theorem RfQ.no {t : Tx} {w : World} (h : RfN t) : Hid (∀ w', Below w.heap.size w w' → RfQ t w (.returned (.tuple #[.slice none 0 0, .slice none 0 0, .int .i64 0, .bool false])) w') := Lib.hid fun w' hb =>
  ⟨hb, none, 0, 0, none, 0, 0, 0, false, rfl, .inl ⟨rfl, h⟩⟩
set_option maxRecDepth 100000 in
set_option maxHeartbeats 8000000 in
theorem refRead_any (t : Tx) (w : World) (hb : bitsB t = true) (hl : t.length ≤ 1000) :
    Calls Tryd.prog 62 #[.string ⟨t.toArray⟩] w (RfQ t w) := by
  have HNO : rdF false t 2 = none → Hid (∀ w', Below w.heap.size w w' → RfQ t w (.returned (.tuple #[.slice none 0 0, .slice none 0 0, .int .i64 0, .bool false])) w') := fun h => RfQ.no (.inl h)
  have HNO2 := Lib.hid HNO
  clear HNO
  generalize hR : RfQ t w = R at *
  have HRR := Lib.hid hR
  clear hR
  have HT := Lib.hid (And.intro hb hl)
  have HRN := Lib.hid (fun lo k ds ws ch => rd_nil lo k ds ws ch)
  have HNM := Lib.hid (fun t W h1 h2 => refNumber_any t W h1 h2)
  have HHF := Lib.hid (fun k W => refHalf_any (wid k) W (okW_le (wid_ok k)))
  have HWW := Lib.hid (fun k W (h : k < 5) => refWidth_any k W h)
  have HTOT : Hid (addR [] [] 0 (rdF false t 2) = rdF false t 2) := Lib.hid (addR_nil _)
  clear hb
  go_enter Tryd.func62, Tryd.ntmps62
  go_wp2
  go_loopg [0, 2, 3, 4, 6, 7] (t.length + 1) (fun gk s u v x y z wr => ∃ (tc : Tx) (k : Nat) (lo : Bool) (ds ws : List Int) (ch : Nat), s = .string ⟨tc.toArray⟩ ∧ x = .int .i64 ch ∧ y = .int .i64 k ∧ z = .bool lo ∧ k < 5 ∧ tc.length ≤ gk ∧ bitsB tc = true ∧ ds.length + tc.length ≤ 1000 ∧ ws.length + tc.length ≤ 1000 ∧ ch + tc.length ≤ 1000 ∧ rdF false t 2 = addR ds ws ch (rdF lo tc k) ∧ OwnI wr w.heap.size 3 u ds ∧ OwnI wr w.heap.size 3 v ws ∧ Apart2 u v ∧ Below w.heap.size w wr)
  case atStart => exact ⟨t, 2, false, [], [], 0, rfl, rfl, rfl, rfl, by omega, by omega, HT.out.1, by simp; omega, by simp; omega, by omega, HTOT.out.symm, OwnI.nil _ _ _, OwnI.nil _ _ _, Apart2.nil_left _, Below.refl _ _⟩
  case round =>
    obtain ⟨tc, k, lo, ds, ws, ch, rfl, rfl, rfl, rfl, hk, hgk, hbt, hld, hlw, hlc, htot, hou, hov, hap, hB⟩ := hrel
    have hsz := size_bt tc
    by_cases h0 : tc.length = 0
    · obtain rfl : tc = [] := List.length_eq_zero_iff.1 h0
      have hT := htot.trans (HRN.out lo k ds ws ch)
      have HTT := Lib.hid hT
      obtain ⟨Au, cu, rfl, hr1⟩ := hou.rd
      obtain ⟨Av, cv, rfl, hr2⟩ := hov.rd
      have HX := Lib.hid (And.intro hr1 (And.intro hr2 (And.intro hB (And.intro hld hgk))))
      clear hou hov hap htot hr1 hr2 hT hlw hlc hbt h0 hsz hB
      by_cases hd0 : ds.length = 0
      · have hdI : ¬ 0 < ds.length := by omega
        have HN0 := Lib.hid hd0
        go_wp2
        refine bodyPost_ret (v := .tuple #[.slice Au ds.length cu, .slice Av ws.length cv, .int .i64 (ch : Int), .bool false]) (by simp [results, Tryd.results62, go_sem, hd0]) rfl ?_
        rw [← HRR.out]
        exact ⟨HX.out.2.2.1, Au, _, cu, Av, _, cv, _, false, rfl, .inl ⟨rfl, .inr ⟨_, _, _, _, HTT.out, .inl (List.length_eq_zero_iff.1 HN0.out)⟩⟩⟩
      · have HD0 := Lib.hid hd0
        have hdI : 0 < ds.length := by omega
        have hd1 : (0 : Int) < (ds.length : Int) := by omega
        cases lo
        · go_wp2
          refine bodyPost_ret (v := .tuple #[.slice Au ds.length cu, .slice Av ws.length cv, .int .i64 (ch : Int), .bool true]) (by simp [results, Tryd.results62, go_sem, hdI]) rfl ?_
          rw [← HRR.out]
          exact ⟨HX.out.2.2.1, Au, _, cu, Av, _, cv, _, true, rfl, .inr ⟨rfl, ds, ws, ch, HTT.out, fun e => HD0.out (by rw [e]; rfl), rfl, rfl, rfl, by have := HX.out.2.2.2.1; simp at this; omega, HX.out.1, HX.out.2.1⟩⟩
        · go_wp2
          refine bodyPost_ret (v := .tuple #[.slice Au ds.length cu, .slice Av ws.length cv, .int .i64 (ch : Int), .bool false]) (by simp [results, Tryd.results62, go_sem, hdI]) rfl ?_
          rw [← HRR.out]
          exact ⟨HX.out.2.2.1, Au, _, cu, Av, _, cv, _, false, rfl, .inl ⟨rfl, .inr ⟨_, _, _, _, HTT.out, .inr rfl⟩⟩⟩
    · have h0I : (0 : Int) < (tc.length : Int) := by omega
      have hle : w.heap.size ≤ wr.heap.size := hB.size
      have HWk := Lib.hid (fun W => HWW.out k W hk)
      have HHk := Lib.hid (fun W => HHF.out k W)
      have hok := wid_ok k
      have hw11 := okW_le hok
      have hhf := hf_le hok
      have e1 : IntKind.i64.wrap (-(hf (wid k))) = -(hf (wid k)) := IntWalk.i64_in _ (by omega)
      have e2 : wrap64 (-(hf (wid k))) = -(hf (wid k)) := IntWalk.wrap64_in _ (by omega)
      by_cases hsh : tc.length < wid k
      · have HX := HNO2.out (htot.trans (rd_short (lo := lo) h0 hsh ds ws ch))
        have hshI : (tc.length : Int) < (wid k : Int) := by omega
        clear hou hov htot
        have HB := Lib.hid hB
        clear hB
        generalize wid k = wk at *
        go_wp2_with (go_at_call 73; refine (HWk.out _).mono ?_; rintro e w3 ⟨rfl, rfl⟩)
        refine bodyPost_ret (v := .tuple #[.slice none 0 0, .slice none 0 0, .int .i64 0, .bool false]) (by simp [results, Tryd.results62, go_sem]) rfl (HX.out _ HB.out)
      · have hex1 := ext_take tc (wid k)
        have hex2 := ext_drop tc (wid k)
        have htl : (tc.take (wid k)).length = wid k := by rw [List.length_take]; omega
        have HNk := Lib.hid (fun W => HNM.out (tc.take (wid k)) W (bits_take hbt _) (by rw [htl]; exact hok))
        have hshI : ¬ (tc.length : Int) < (wid k : Int) := by omega
        have hwI : (wid k : Int) ≤ (tc.length : Int) := by omega
        have hw0 : (0 : Int) ≤ (wid k : Int) := by omega
        have hcn := canD_num htl
        have hT2l : (tc.drop (wid k)).length = tc.length - wid k := List.length_drop
        have hb2' := bits_drop hbt (wid k)
        have hszT := size_bt (tc.drop (wid k))
        cases hcan : canD (wid k) (numB (tc.take (wid k)))
        · have hN : numB (tc.take (wid k)) = -(hf (wid k)) := by rw [hcan] at hcn; simpa using hcn.symm
          rw [hN] at HNk
          have HTO := Lib.hid htot
          have HO := Lib.hid (And.intro hou (And.intro hov hap))
          have HB := Lib.hid hB
          have hcw : tc.length = wid k ∨ wid k < tc.length := by omega
          rcases hcw with hcw | hcw
          · have HX := HNO2.out (htot.trans (rd_stop (lo := lo) h0 hcw hcan ds ws ch))
            have hT2 : tc.drop (wid k) = [] := List.drop_eq_nil_of_le (by omega)
            rw [hT2] at hex2 hszT
            clear hcan hcn hN hou hov hap htot hB hT2l hb2' hT2
            generalize tc.take (wid k) = T1 at *
            generalize hf (wid k) = h at *
            go_wp2_with (first
              | (go_at_call 73; refine (HWk.out _).mono ?_; rintro e w3 ⟨rfl, rfl⟩)
              | (go_at_call 74; refine (HNk.out _).mono ?_; rintro e w4 ⟨rfl, rfl⟩)
              | (go_at_call 75; refine (HHk.out _).mono ?_; rintro e w5 ⟨rfl, rfl⟩))
            refine bodyPost_ret (v := .tuple #[.slice none 0 0, .slice none 0 0, .int .i64 0, .bool false]) (by simp [results, Tryd.results62, go_sem]) rfl (HX.out _ HB.out)
          · have hT3 : (tc.drop (wid k)).drop 1 = tc.drop (wid k + 1) := by rw [List.drop_drop]
            have hup := fun h9 => rd_up (lo := lo) hcw hcan h9 ds ws ch
            have hdn := fun h9 => rd_down (lo := lo) hcw hcan h9 ds ws ch
            rw [← hT3] at hup hdn
            rw [head_bt (by omega)] at hup
            rw [show ((tc.drop (wid k)).head? ≠ some 49) = (bt (tc.drop (wid k)) 0 ≠ 49) by rw [ne_eq, head_bt (by omega)]] at hdn
            have hb01 := bt_bits hb2' (i := 0) (by omega)
            have HB3 := Lib.hid (And.intro (bits_drop hb2' 1) (show ((tc.drop (wid k)).drop 1).length = tc.length - wid k - 1 by rw [List.length_drop]; omega))
            have hget := get_bt (tc.drop (wid k)) 0
            have hex3 := ext_drop (tc.drop (wid k)) 1
            have hpos : 0 < (tc.drop (wid k)).length := by omega
            have hposN : ¬ (tc.drop (wid k)).length = 0 := by omega
            have hposI : (0 : Int) < ((tc.drop (wid k)).length : Int) := by omega
            have hpos1 : (1 : Int) ≤ ((tc.drop (wid k)).length : Int) := by omega
            have hpos0 : (((tc.drop (wid k)).length : Int) == 0) = false := by rw [beq_eq_false_iff_ne]; omega
            clear hcan hcn hN hb2' hT3 hbt hT2l htot hou hov hap hB
            generalize tc.take (wid k) = T1 at *
            generalize tc.drop (wid k) = T2 at *
            generalize T2.drop 1 = T3 at *
            generalize hf (wid k) = h at *
            rcases hb01 with hx | hx
            · rw [hx] at hget
              have hE0 := hdn (by rw [hx]; decide)
              have ea : IntKind.i64.wrap ((k : Int) - 1) = (k : Int) - 1 := IntWalk.i64_in _ (by omega)
              have eb : wrap64 ((k : Int) - 1) = (k : Int) - 1 := IntWalk.wrap64_in _ (by omega)
              clear hup hdn hx
              by_cases hk1 : 0 < k
              · rw [if_pos hk1] at hE0
                have k0 : ¬ (k : Int) - 1 < 0 := by omega
                have k5 : ¬ (5 : Int) ≤ (k : Int) - 1 := by omega
                go_wp2_with (first
                  | (go_at_call 73; refine (HWk.out _).mono ?_; rintro e w3 ⟨rfl, rfl⟩)
                  | (go_at_call 74; refine (HNk.out _).mono ?_; rintro e w4 ⟨rfl, rfl⟩)
                  | (go_at_call 75; refine (HHk.out _).mono ?_; rintro e w5 ⟨rfl, rfl⟩))
                go_roundg T3.length
                case measure => have := HB3.out.2; omega
                case rel =>
                  have hT3l := HB3.out.2
                  exact ⟨T3, k - 1, true, ds, ws, ch + 1, by first | rfl | rw [hex3], by go_num, by rw [show (k : Int) - 1 = ((k - 1 : Nat) : Int) by omega], rfl, by omega, Nat.le_refl _, HB3.out.1, by omega, by omega, by omega, HTO.out.trans hE0, HO.out.1, HO.out.2.1, HO.out.2.2, HB.out⟩
              · rw [if_neg hk1] at hE0
                have HX := HNO2.out (HTO.out.trans hE0)
                have k0 : (k : Int) - 1 < 0 := by omega
                go_wp2_with (first
                  | (go_at_call 73; refine (HWk.out _).mono ?_; rintro e w3 ⟨rfl, rfl⟩)
                  | (go_at_call 74; refine (HNk.out _).mono ?_; rintro e w4 ⟨rfl, rfl⟩)
                  | (go_at_call 75; refine (HHk.out _).mono ?_; rintro e w5 ⟨rfl, rfl⟩))
                refine bodyPost_ret (v := .tuple #[.slice none 0 0, .slice none 0 0, .int .i64 0, .bool false]) (by simp [results, Tryd.results62, go_sem]) rfl (HX.out _ HB.out)
            · rw [hx] at hget
              have hE0 := hup hx
              clear hup hdn hx
              by_cases hk1 : k + 1 < 5
              · rw [if_pos hk1] at hE0
                have k0 : ¬ (k : Int) + 1 < 0 := by omega
                have k5 : ¬ (5 : Int) ≤ (k : Int) + 1 := by omega
                go_wp2_with (first
                  | (go_at_call 73; refine (HWk.out _).mono ?_; rintro e w3 ⟨rfl, rfl⟩)
                  | (go_at_call 74; refine (HNk.out _).mono ?_; rintro e w4 ⟨rfl, rfl⟩)
                  | (go_at_call 75; refine (HHk.out _).mono ?_; rintro e w5 ⟨rfl, rfl⟩))
                go_roundg T3.length
                case measure => have := HB3.out.2; omega
                case rel =>
                  have hT3l := HB3.out.2
                  exact ⟨T3, k + 1, true, ds, ws, ch + 1, by first | rfl | rw [hex3], by go_num, by go_num, rfl, by omega, Nat.le_refl _, HB3.out.1, by omega, by omega, by omega, HTO.out.trans hE0, HO.out.1, HO.out.2.1, HO.out.2.2, HB.out⟩
              · rw [if_neg hk1] at hE0
                have HX := HNO2.out (HTO.out.trans hE0)
                have k0 : ¬ (k : Int) + 1 < 0 := by omega
                have k5 : (5 : Int) ≤ (k : Int) + 1 := by omega
                go_wp2_with (first
                  | (go_at_call 73; refine (HWk.out _).mono ?_; rintro e w3 ⟨rfl, rfl⟩)
                  | (go_at_call 74; refine (HNk.out _).mono ?_; rintro e w4 ⟨rfl, rfl⟩)
                  | (go_at_call 75; refine (HHk.out _).mono ?_; rintro e w5 ⟨rfl, rfl⟩))
                refine bodyPost_ret (v := .tuple #[.slice none 0 0, .slice none 0 0, .int .i64 0, .bool false]) (by simp [results, Tryd.results62, go_sem]) rfl (HX.out _ HB.out)
        · have hE := rd_word (lo := lo) h0 hsh hcan ds ws ch
          have hN : (numB (tc.take (wid k)) == -(hf (wid k))) = false := by rw [hcan] at hcn; simpa using hcn
          have hN2 : ¬ numB (tc.take (wid k)) = -(hf (wid k)) := by simpa using hN
          have HT2 := Lib.hid (And.intro hb2' hT2l)
          have hdl : ds.length ≤ 1000000 := by omega
          have hwl : ws.length ≤ 1000000 := by omega
          have HTO := Lib.hid htot
          have HO := Lib.hid (And.intro hou (And.intro hov (And.intro hap hB)))
          clear hcan hcn hb2' hT2l htot hou hov hap hB
          generalize numB (tc.take (wid k)) = N at *
          generalize tc.take (wid k) = T1 at *
          generalize tc.drop (wid k) = T2 at *
          generalize hf (wid k) = h at *
          go_wp2_with (first
            | (go_at_call 73; refine (HWk.out _).mono ?_; rintro e w3 ⟨rfl, rfl⟩)
            | (go_at_call 74; refine (HNk.out _).mono ?_; rintro e w4 ⟨rfl, rfl⟩)
            | (go_at_call 75; refine (HHk.out _).mono ?_; rintro e w5 ⟨rfl, rfl⟩)
            | (have := hO7; refine wp_app_int2 22 rfl (.tmp 35) (.tmp 37) rfl Tryd.underlying22 infoInt w7 w.heap.size _ ws (wid k : Int) rfl rfl (HO.out.2.1.spared hS7.out HO.out.2.2.1) hwl (Nat.le_trans hle hS7.out.size) ?_; intro v8 w8 hO8 hB8 hS8 hF8; replace hO8 := Lib.hid hO8; replace hB8 := Lib.hid hB8; replace hS8 := Lib.hid hS8; replace hF8 := Lib.hid hF8)
            | (refine wp_app_int2 22 rfl (.tmp 31) (.tmp 33) rfl Tryd.underlying22 infoInt _ w.heap.size _ ds N rfl rfl HO.out.1 hdl hle ?_; intro v7 w7 hO7 hB7 hS7 hF7; replace hO7 := Lib.hid hO7; replace hB7 := Lib.hid hB7; replace hS7 := Lib.hid hS7; replace hF7 := Lib.hid hF7))
          have hT2l := HT2.out.2
          go_roundg T2.length
          case measure => omega
          case rel =>
            obtain ⟨hou, hov, hap, hB⟩ := HO.out
            have hap7 := (hap.fresh hF7.out hov.block_lt).symm
            exact ⟨T2, k, false, ds ++ [N], ws ++ [(wid k : Int)], ch, rfl, rfl, rfl, rfl, hk, Nat.le_refl _, HT2.out.1, by simp; omega, by simp; omega, by omega, HTO.out.trans hE, hO7.out.spared hS8.out hap7, hO8.out, (hap7.fresh hF8.out hO7.out.block_lt).symm, (hB.trans hB7.out).trans hB8.out⟩
end Go.Proofs.YtkjiancdhaocaaaDoor
