/- Walks over package sky, and its reference: the set of the pixels on some rings. -/
import Derived.Test.YtgbpmleipdecgaaSkyRc
import Derived.Test.YtgbpmleipdecgaaSkyR
namespace Go.Proofs.Ytgbpmleipdecgaa
open Go.RowKit
set_option linter.unusedSimpArgs false
set_option linter.unusedVariables false

/-- the pixels on some rings -/
def bandP (a b : Int) : Px := fun x => btw a (pR 4 x) b
def okBand (a b : Int) : Bool := btw 1 a 63 && btw a b 63
def ringsE (a b : Int) : Int := if okBand a b then toldE (bandP a b) else 2
def ringsL (a b : Int) : List (Int × Int) := if okBand a b then toldL (bandP a b) else []
/-- the first n pixels alone -/
def halfP (S : Px) (n : Nat) : Px := fun x => decide (x < n) && S x
theorem halfP_zero (S : Px) : halfP S 0 = fun _ => false := by funext x; simp [halfP]
theorem halfP_all (S : Px) : ∀ x, x < 3072 → halfP S 3072 x = S x := fun x hx => by simp [halfP, hx]
theorem halfP_put {S : Px} {n : Nat} (h : S n = true) : (fun x => halfP S n x || inC (4, (n : Int)) x) = halfP S (n + 1) := by
  funext x
  have : inC (4, (n : Int)) x = decide (x = n) := by
    have := inC_mk 0 n x
    simpa using this
  rw [this]
  unfold halfP
  rcases Nat.lt_trichotomy x n with h1 | rfl | h1
  · have e1 : x < n + 1 := by omega
    have e2 : ¬ x = n := by omega
    simp [h1, e1, e2]
  · simp [h]
  · have e1 : ¬ x < n + 1 := by omega
    have e2 : ¬ x = n := by omega
    have e3 : ¬ x < n := by omega
    simp [e1, e2, e3]
theorem halfP_skip {S : Px} {n : Nat} (h : S n = false) : halfP S n = halfP S (n + 1) := by
  funext x
  unfold halfP
  rcases Nat.lt_trichotomy x n with h1 | rfl | h1
  · have e1 : x < n + 1 := by omega
    simp [h1, e1]
  · simp [h]
  · have e1 : ¬ x < n + 1 := by omega
    have e3 : ¬ x < n := by omega
    simp [e1, e3]
theorem halfP_set (S : Px) (n : Nat) : (fun x => if x = n then S n else halfP S n x) = halfP S (n + 1) := by
  funext x
  unfold halfP
  rcases Nat.lt_trichotomy x n with h1 | rfl | h1
  · have e1 : x < n + 1 := by omega
    have e2 : ¬ x = n := by omega
    simp [h1, e1, e2]
  · simp
  · have e1 : ¬ x < n + 1 := by omega
    have e2 : ¬ x = n := by omega
    have e3 : ¬ x < n := by omega
    simp [e1, e2, e3]
set_option maxRecDepth 100000 in
set_option maxHeartbeats 4000000 in
theorem Rings_any (a b : Int) (w : World) : Calls Try.prog 12 #[.int .i64 a, .int .i64 b] w (LstQ (ringsL a b) (ringsE a b) w) := by
  have HO := Lib.hid (fun W => open_ok 4 W rfl)
  have HRI := Lib.hid (fun W => rings_any 4 16 W (by omega))
  have HPX := Lib.hid (fun W => pixels_s 4 16 W (by omega))
  rw [show (4 : Int) * 16 - 1 = 63 by decide] at HRI
  rw [show (12 : Int) * 16 * 16 = 3072 by decide] at HPX
  rw [show sd 4 = 16 by decide] at HO
  have hrg : ∀ (n : Nat) (hn : n < 3072) (W : World), Calls Try.prog 38 #[.agg #[.int .i64 4, .int .i64 (sd 4)], .int .i64 n] W fun e w' => e = .returned (.tuple #[.int .i64 (pR 4 n), .int .i64 (pP 4 n)]) ∧ Below W.heap.size W w' := fun n hn W => ring_any 4 n W (okP_mk rfl (by have : px 4 = 3072 := (by decide); omega))
  rw [show sd 4 = 16 by decide] at hrg
  have HRG := Lib.hid hrg
  clear hrg
  have HPC := Lib.hid (fun S g (n : Nat) W (hn : n < 3072) hb => put_cell S g 4 n W (okP_mk rfl (by have : px 4 = 3072 := (by decide); omega)) hb)
  have HT := Lib.hid (fun W => told_any (bandP a b) W)
  have HSZ := Lib.hid rgA_size
  have HHA := Lib.hid (halfP_all (bandP a b))
  have HHZ := Lib.hid (halfP_zero (bandP a b))
  have HHP := Lib.hid (fun n (h : btw a (pR 4 ((n : Nat) : Int)) b = true) => halfP_put (S := bandP a b) (n := n) h)
  have HHS := Lib.hid (fun n (h : btw a (pR 4 ((n : Nat) : Int)) b = false) => halfP_skip (S := bandP a b) (n := n) h)
  have HN : Hid (okBand a b = false → ∀ W, Below w.heap.size w W → LstQ (ringsL a b) (ringsE a b) w (.returned (.tuple #[.slice none 0 0, .int .i64 2])) W) := Lib.hid (fun h W hW => by
    unfold ringsL ringsE; rw [h]; exact LstQ.no_ hW)
  have HY : Hid (okBand a b = true → ringsL a b = toldL (bandP a b) ∧ ringsE a b = toldE (bandP a b)) := Lib.hid (fun h => by unfold ringsL ringsE; rw [h]; exact ⟨rfl, rfl⟩)
  have HD : Hid (okBand a b = (btw 1 a 63 && btw a b 63)) := Lib.hid rfl
  generalize okBand a b = ok at *
  unfold LstQ rgV at HT
  generalize toldL (bandP a b) = TL at *
  generalize toldE (bandP a b) = TE at *
  generalize bandP a b = BP at *
  cases h1 : btw 1 a 63
  · have H0 := Lib.hid (HN.out (by rw [HD.out, h1]; rfl))
    clear HY HN HD HT HHA HHZ HHP HHS HPC HRG
    generalize ringsL a b = RL at *
    generalize ringsE a b = RE at *
    have HH1 := Lib.hid h1
    clear h1
    go_enter Try.func12, Try.ntmps12
    go_wp2_with (first
      | (go_at_call 39; refine (HO.out _).mono ?_; rintro e w1 ⟨rfl, h1⟩)
      | (go_at_call 40; refine (HRI.out _).mono ?_; rintro e w2 ⟨rfl, h2⟩)
      | (go_at_call 34; refine (between_any _ _ _ _).mono ?_; rintro e w' ⟨rfl, rfl⟩; rw [HH1.out]))
    go_ret2
    exact H0.out _ ((h1.trs (below_alloc _ _)).trs h2)
  · have HH1 := Lib.hid h1
    cases h2 : btw a b 63
    · have H0 := Lib.hid (HN.out (by rw [HD.out, h1, h2]; rfl))
      clear HY HN HD HT HHA HHZ HHP HHS HPC HRG
      generalize ringsL a b = RL at *
      generalize ringsE a b = RE at *
      have HH2 := Lib.hid h2
      clear h1 h2
      go_enter Try.func12, Try.ntmps12
      go_wp2_with (first
        | (go_at_call 39; refine (HO.out _).mono ?_; rintro e w1 ⟨rfl, h1⟩; have hz1 := (Box.new w1 54 #[.int .i64 4, .int .i64 16]))
        | (go_at_call 40; have hy := h3; refine (HRI.out _).mono ?_; rintro e w2 ⟨rfl, h4⟩)
        | (go_at_call 40; refine (HRI.out _).mono ?_; rintro e w2 ⟨rfl, h3⟩; have hz2 := hz1.on h3; have k0 := hz2.cell 0; have k1 := hz2.cell 1; simp at k0 k1)
        | (go_at_call 34; refine (between_any _ _ _ _).mono ?_; rintro e w' ⟨rfl, rfl⟩; first | rw [HH1.out] | rw [HH2.out]))
      go_ret2
      exact H0.out _ (((h1.trs (below_alloc _ _)).trs h3).trs h4)
    · obtain ⟨eL, eE⟩ := HY.out (by rw [HD.out, h1, h2]; rfl)
      have HH2 := Lib.hid h2
      clear HY HN HD h1 h2
      go_enter Try.func12, Try.ntmps12
      go_upto_region 5 with (first
        | (go_at_call 39; refine (HO.out _).mono ?_; rintro e w1 ⟨rfl, h1⟩; have hz1 := (Box.new w1 54 #[.int .i64 4, .int .i64 16]))
        | (go_at_call 40; have hy := h3; refine (HRI.out _).mono ?_; rintro e w3 ⟨rfl, h4⟩)
        | (go_at_call 40; refine (HRI.out _).mono ?_; rintro e w2 ⟨rfl, h3⟩; have hz2 := hz1.on h3; have k0 := hz2.cell 0; have k1 := hz2.cell 1; simp at k0 k1)
        | (go_at_call 34; refine (between_any _ _ _ _).mono ?_; rintro e w' ⟨rfl, rfl⟩; first | rw [HH1.out] | rw [HH2.out]))
      rw [rgA_none]
      have hb3 := ((h1.trs (below_alloc w1 (.cells #[.int .i64 4, .int .i64 16] 54))).trs h3).trs h4
      have hz3 := hz2.on h4
      have hgs : w1.heap.size < w3.heap.size := hz3.lt
      have HX := Lib.hid (And.intro (BoxR.new w3 (fun _ => false)) (And.intro (hz3.alloc (.cells (rgA fun _ => false) 81)) (And.intro (hb3.trs (below_alloc w3 (.cells (rgA fun _ => false) 81))) hb3.size)))
      clear k0 k1 hz1 hz2 hz3 hb3 h1 h3 h4
      generalize hW4 : w3.alloc (.cells (rgA fun _ => false) 81) = W4 at *
      clear hW4
      generalize w3.heap.size = g at *
      generalize w1.heap.size = gs at *
      have k0 := HX.out.2.1.cell 0
      have k1 := HX.out.2.1.cell 1
      simp at k0 k1
      go_wp2_with (go_at_call 41; refine (HPX.out _).mono ?_; rintro e w5 ⟨rfl, h5⟩)
      have HGS := Lib.hid hgs
      go_loopg [31] 3072 (fun gk t wr => ∃ n : Nat, t = .int .i64 n ∧ n ≤ 3072 ∧ 3072 - n ≤ gk ∧ BoxR wr g (halfP BP n) ∧ Box wr gs 54 #[.int .i64 4, .int .i64 16] ∧ Below w.heap.size w wr)
      case atStart => exact ⟨0, rfl, by omega, by omega, by rw [HHZ.out]; exact HX.out.1.on h5, HX.out.2.1.on h5, HX.out.2.2.1.trs h5⟩
      case round =>
        obtain ⟨n, rfl, hn, hgk, hX, hS, hB⟩ := hrel
        by_cases hlt : n < 3072
        · have hltI : (n : Int) < 3072 := by omega
          have k0 := hS.cell 0
          have k1 := hS.cell 1
          simp at k0 k1
          have HRn := Lib.hid (HRG.out n hlt)
          have HPn := Lib.hid (fun g W hb => HPC.out (halfP BP n) g n W hlt hb)
          have HHPn := Lib.hid (HHP.out n)
          have HHSn := Lib.hid (HHS.out n)
          have HXS := Lib.hid (And.intro hX (And.intro hS hB))
          have HL := Lib.hid (And.intro hlt hgk)
          clear hX hS hB
          generalize pR 4 (n : Int) = rn at *
          generalize pP 4 (n : Int) = pn at *
          cases hin : btw a rn b
          · have HH3 := Lib.hid hin
            have HE := Lib.hid (HHSn.out hin)
            clear hin
            go_wp2_with (first
              | (go_at_call 38; refine (HRn.out _).mono ?_; rintro e w6 ⟨rfl, h6⟩)
              | (go_at_call 34; refine (between_any _ _ _ _).mono ?_; rintro e w' ⟨rfl, rfl⟩; rw [HH3.out]))
            go_roundg (3072 - (n + 1))
            case measure => have := HL.out; omega
            case rel => exact ⟨n + 1, by go_num, by have := HL.out; omega, by have := HL.out; omega, by rw [← HE.out]; exact HXS.out.1.on h6, HXS.out.2.1.on h6, HXS.out.2.2.trs h6⟩
          · have HH3 := Lib.hid hin
            have HE := Lib.hid (HHPn.out hin)
            clear hin
            go_wp2_with (first
              | (go_at_call 38; refine (HRn.out _).mono ?_; rintro e w6 ⟨rfl, h6⟩)
              | (go_at_call 34; refine (between_any _ _ _ _).mono ?_; rintro e w' ⟨rfl, rfl⟩; rw [HH3.out])
              | (go_at_call 42; refine (HPn.out g _ (HXS.out.1.on h6)).mono ?_; rintro e w7 ⟨rfl, h7, hx7⟩))
            go_roundg (3072 - (n + 1))
            case measure => have := HL.out; omega
            case rel => exact ⟨n + 1, by go_num, by have := HL.out; omega, by have := HL.out; omega, by rw [← HE.out]; exact hx7, (HXS.out.2.1.on h6).keep h7 HGS.out, (HXS.out.2.2.trs h6).trans (h7.mono HX.out.2.2.2)⟩
        · obtain rfl : n = 3072 := by omega
          have HX1 := Lib.hid (hX.congr HHA.out)
          have HB1 := Lib.hid hB
          clear hX hS hB
          go_wp2_with (first
            | (refine wpList_load_row rfl 81 (.tmp 8) rfl g rfl 81 _ (0, 0) _ HX1.out Try.underlying81 rfl (by rw [infoReg, HSZ.out]) ?_)
            | (go_at_call 43; refine (HT.out _).mono ?_; rintro e w9 ⟨h9, A9, c9, rfl, hr9⟩))
          go_ret2
          refine ⟨HB1.out.trs h9, A9, c9, ?_, ?_⟩
          · rw [eL, eE]; first | done | rfl
          · rw [eL]; exact hr9
end Go.Proofs.Ytgbpmleipdecgaa
