/- Walks over sky's reference: the set of the pixels on some rings. -/
import Derived.Test.YtolgpigdioanoaaSkyBa
namespace Go.Proofs.Ytolgpigdioanoaa
open Go.RowKit
set_option linter.unusedSimpArgs false
set_option linter.unusedVariables false

theorem okBand_ref (a b : Int) : okBand a b = (okR 4 a && okR 4 b && !(decide (b < a))) := by
  unfold okBand okR
  rw [show sd 4 = 16 by decide, show btw 0 4 4 = true by decide]
  simp only [Bool.true_and]
  rw [Bool.eq_iff_iff]
  simp only [Bool.and_eq_true, btw_iff, Bool.not_eq_true', decide_eq_false_iff_not]
  omega
set_option maxRecDepth 100000 in
set_option maxHeartbeats 4000000 in
theorem refRings_any (a b : Int) (w : World) : Calls Try.prog 40 #[.int .i64 a, .int .i64 b] w (LstQ (ringsL a b) (ringsE a b) w) := by
  have HA := Lib.hid (fun W => isRing_any 4 a W)
  have HB := Lib.hid (fun W => isRing_any 4 b W)
  have HNO := Lib.hid Nothing_any
  have hrg : ∀ (n : Nat) (hn : n < 3072) (W : World), Calls Try.prog 38 #[.int .i64 4, .int .i64 n] W fun e w' => e = .returned (.tuple #[.int .i64 (pR 4 n), .int .i64 (pP 4 n), .int .i64 0]) ∧ Below W.heap.size W w' := fun n hn W => by
    have h := okP_mk (k := 4) (n := n) rfl (by have : px 4 = 3072 := (by decide); omega)
    have := refRingOf_any 4 n W
    rw [RingOfV, h] at this
    exact this
  have HRG := Lib.hid hrg
  have HT := Lib.hid (fun W g hX => set_any (bandP a b) g W hX)
  have HHA := Lib.hid (halfP_all (bandP a b))
  have HHZ := Lib.hid (halfP_zero (bandP a b))
  have HHS : Hid (∀ n : Nat, (fun x => if x = n then btw a (pR 4 (n : Int)) b else halfP (bandP a b) n x) = halfP (bandP a b) (n + 1)) := Lib.hid (fun n => halfP_set (bandP a b) n)
  have HN : Hid (okBand a b = false → ∀ W, Below w.heap.size w W → LstQ (ringsL a b) (ringsE a b) w (.returned (.tuple #[.slice none 0 0, .int .i64 2])) W) := Lib.hid (fun h W hW => by
    unfold ringsL ringsE; rw [h]; exact LstQ.no_ hW)
  have HY : Hid (okBand a b = true → ringsL a b = toldL (bandP a b) ∧ ringsE a b = toldE (bandP a b)) := Lib.hid (fun h => by unfold ringsL ringsE; rw [h]; exact ⟨rfl, rfl⟩)
  have HD := Lib.hid (okBand_ref a b)
  generalize okBand a b = ok at *
  unfold LstQ at HT
  unfold AreQ at HNO
  generalize toldL (bandP a b) = TL at *
  generalize toldE (bandP a b) = TE at *
  generalize bandP a b = BP at *
  clear hrg
  cases h1 : okR 4 a
  · have H0 := Lib.hid (HN.out (by rw [HD.out, h1]; rfl))
    rw [h1] at HA
    clear HY HN HD HT HHA HHZ HHS HRG h1
    generalize ringsL a b = RL at *
    generalize ringsE a b = RE at *
    go_enter Try.func40, Try.ntmps40
    go_wp2_with (first
      | (go_at_call 81; refine (HA.out _).mono ?_; rintro e w' ⟨rfl, rfl⟩))
    go_ret2
    exact H0.out _ (Below.refl _ _)
  · rw [h1] at HA
    cases h2 : okR 4 b
    · have H0 := Lib.hid (HN.out (by rw [HD.out, h1, h2]; rfl))
      rw [h2] at HB
      clear HY HN HD HT HHA HHZ HHS HRG h1 h2
      generalize ringsL a b = RL at *
      generalize ringsE a b = RE at *
      go_enter Try.func40, Try.ntmps40
      go_wp2_with (first
        | (go_at_call 81; have hy := hq1; refine (HB.out _).mono ?_; rintro e w' ⟨rfl, rfl⟩)
        | (go_at_call 81; refine (HA.out _).mono ?_; rintro e w' ⟨rfl, rfl⟩; have hq1 := True.intro))
      go_ret2
      exact H0.out _ (Below.refl _ _)
    · rw [h2] at HB
      by_cases h3 : b < a
      · have H0 := Lib.hid (HN.out (by rw [HD.out, decide_eq_true h3]; simp))
        have h3' : decide (b < a) = true := decide_eq_true h3
        clear HY HN HD HT HHA HHZ HHS HRG h1 h2
        generalize ringsL a b = RL at *
        generalize ringsE a b = RE at *
        go_enter Try.func40, Try.ntmps40
        go_wp2_with (first
          | (go_at_call 81; have hy := hq1; refine (HB.out _).mono ?_; rintro e w' ⟨rfl, rfl⟩)
          | (go_at_call 81; refine (HA.out _).mono ?_; rintro e w' ⟨rfl, rfl⟩; have hq1 := True.intro))
        go_ret2
        exact H0.out _ (Below.refl _ _)
      · obtain ⟨eL, eE⟩ := HY.out (by rw [HD.out, h1, h2, decide_eq_false h3]; rfl)
        have h3' : decide (b < a) = false := decide_eq_false h3
        clear HY HN HD h1 h2
        go_enter Try.func40, Try.ntmps40
        go_wp2_with (first
          | (go_at_call 81; have hy := hq1; refine (HB.out _).mono ?_; rintro e w' ⟨rfl, rfl⟩)
          | (go_at_call 81; refine (HA.out _).mono ?_; rintro e w' ⟨rfl, rfl⟩; have hq1 := True.intro)
          | (go_at_call 99; refine (HNO.out _).mono ?_; rintro e w1 ⟨g, rfl, hg, h1, hx⟩))
        have HG := Lib.hid hg
        go_loopg [7] 3072 (fun gk t wr => ∃ n : Nat, t = .int .i64 n ∧ n ≤ 3072 ∧ 3072 - n ≤ gk ∧ BoxA wr g (halfP BP n) ∧ Below w.heap.size w wr)
        case atStart => exact ⟨0, rfl, by omega, by omega, by rw [HHZ.out]; exact hx, h1⟩
        case round =>
          obtain ⟨n, rfl, hn, hgk, hX, hB⟩ := hrel
          by_cases hlt : n < 3072
          · have hltI : (n : Int) < 3072 := by omega
            have HRn := Lib.hid (HRG.out n hlt)
            have HSn := Lib.hid (HHS.out n)
            have HXS := Lib.hid (And.intro hX hB)
            have HL := Lib.hid (And.intro hlt hgk)
            clear hX hB
            generalize pR 4 (n : Int) = rn at *
            generalize pP 4 (n : Int) = pn at *
            obtain ⟨bo, hbo⟩ : ∃ bo, btw a rn b = bo := ⟨_, rfl⟩
            rw [hbo] at HSn
            have HBO := Lib.hid hbo
            clear hbo
            go_wp2_with (first
              | (go_at_call 38; refine (HRn.out _).mono ?_; rintro e w6 ⟨rfl, h6⟩; have hx6 := HXS.out.1.on h6; have cc := hx6.cell hlt; have cf := hx6.frozen n; have HX6 := Lib.hid hx6; clear hx6; generalize halfP BP n n = old at cc)
              | (go_at_call 67; refine (within_any _ _ _ _).mono ?_; rintro e w' ⟨rfl, rfl⟩; rw [HBO.out]))
            go_roundg (3072 - (n + 1))
            case measure => have := HL.out; omega
            case rel => exact ⟨n + 1, by go_num, by have := HL.out; omega, by have := HL.out; omega, by rw [← HSn.out]; exact HX6.out.set_ n bo, (HXS.out.2.trs h6).setCell (p := ⟨g, n, none⟩) HG.out _⟩
          · obtain rfl : n = 3072 := by omega
            have HX1 := Lib.hid (hX.congr HHA.out)
            have HB1 := Lib.hid hB
            clear hX hB
            go_wp2_with (go_at_call 100; refine (HT.out _ _ HX1.out).mono ?_; rintro e w9 ⟨h9, A9, c9, rfl, hr9⟩)
            go_ret2
            refine ⟨HB1.out.trs h9, A9, c9, ?_, ?_⟩
            · rw [eL, eE]; first | done | rfl
            · rw [eL]; exact hr9
end Go.Proofs.Ytolgpigdioanoaa
