/- Walks over sky's reference: the cells of an area. -/
import Derived.Test.YtgbpmleipdecgaaSkyRa
namespace Go.Proofs.Ytgbpmleipdecgaa
open Go.RowKit
set_option linter.unusedSimpArgs false
set_option linter.unusedVariables false

set_option maxRecDepth 100000 in
set_option maxHeartbeats 4000000 in
theorem reffull_any (S : Px) (g c : Nat) (h p : Nat) (w : World) (hX : BoxA w g S) (hh : h ≤ 4) (hp : (p + 1) * 4 ^ h ≤ 3072) :
    Calls Try.prog 57 #[.slice (some ⟨g, 0, none⟩) 3072 c, .agg #[.int .i64 (4 - (h : Int)), .int .i64 p]] w fun e w' => e = .returned (.bool (allP S (p * 4 ^ h) (4 ^ h))) ∧ Below w.heap.size w w' := by
  have HWI := Lib.hid (fun W => width_any h p W hh)
  have hfit := cell_fits hp
  have hbl := below_alloc w (.cells #[.int .i64 (4 - (h : Int)), .int .i64 p] 37)
  have HX := Lib.hid (And.intro (Box.new w 37 #[.int .i64 (4 - (h : Int)), .int .i64 p]) (And.intro (hX.on hbl) hbl))
  have hmul : (p : Int) * ((4 ^ h : Nat) : Int) = ((p * 4 ^ h : Nat) : Int) := by simp
  have HN : Hid (∀ k, k < 4 ^ h → S (p * 4 ^ h + k) = false → allP S (p * 4 ^ h) (4 ^ h) = false) := Lib.hid (fun k hk hs => by
    cases ha : allP S (p * 4 ^ h) (4 ^ h)
    · rfl
    · rw [allP_iff.1 ha k hk] at hs; cases hs)
  have HY : Hid ((∀ k, k < 4 ^ h → S (p * 4 ^ h + k) = true) → allP S (p * 4 ^ h) (4 ^ h) = true) := Lib.hid (fun hs => allP_iff.2 hs)
  clear hX hbl hp hh
  generalize allP S (p * 4 ^ h) (4 ^ h) = r at *
  generalize 4 ^ h = n at *
  generalize p * n = a at *
  generalize (4 : Int) - (h : Int) = o at *
  go_enter Try.func57, Try.ntmps57
  go_upto_region 1 with (fail)
  generalize hW0 : w.alloc (.cells #[.int .i64 o, .int .i64 p] 37) = W0 at *
  clear hW0
  have k0 := HX.out.1.cell 0
  have k1 := HX.out.1.cell 1
  simp at k0 k1
  go_wp2_with (go_at_call 56; refine (HWI.out _).mono ?_; rintro e w1 ⟨rfl, h1⟩)
  go_loopg [6] n (fun gk t wr => ∃ j : Nat, t = .int .i64 j ∧ j ≤ n ∧ n - j ≤ gk ∧ Below W0.heap.size W0 wr ∧ Aside (∀ k, k < j → S (a + k) = true))
  case atStart => exact ⟨0, rfl, by omega, by omega, h1, (fun k hk => absurd hk (Nat.not_lt_zero k) : ∀ k, k < 0 → S (a + k) = true)⟩
  case round =>
    obtain ⟨j, rfl, hj, hgk, hB, HA⟩ := hrel
    by_cases hlt : j < n
    · have hltI : (j : Int) < (n : Int) := by omega
      have k1 := (HX.out.1.on hB).cell 1
      simp at k1
      have cc := (HX.out.2.1.on hB).cell (i := a + j) (by omega)
      have HNJ := Lib.hid (HN.out j hlt)
      have HL := Lib.hid (And.intro hlt hgk)
      have HAJ := Lib.hid (fun (hs : S (a + j) = true) (k : Nat) (hk : k < j + 1) => (by
        rcases Nat.lt_succ_iff_lt_or_eq.1 hk with h1 | rfl
        · exact HA.out k h1
        · exact hs : S (a + k) = true))
      have HBB := Lib.hid hB
      clear hB HA
      cases hs : S (a + j)
      · have hr := HNJ.out hs
        subst hr
        rw [hs] at cc
        clear hs
        go_wp2
        go_ret
        exact ⟨rfl, HX.out.2.2.trs HBB.out⟩
      · have HSJ := Lib.hid (HAJ.out hs)
        rw [hs] at cc
        clear hs HAJ HNJ
        go_wp2
        go_roundg (n - (j + 1))
        case measure => have := HL.out; omega
        case rel => exact ⟨j + 1, by go_num, by have := HL.out; omega, by have := HL.out; omega, HBB.out, HSJ.out⟩
    · obtain rfl : j = n := by omega
      have hltI : ¬ (j : Int) < (j : Int) := by omega
      have hr := HY.out (fun k hk => HA.out k hk)
      subst hr
      go_wp2
      go_ret
      exact ⟨rfl, HX.out.2.2.trs hB⟩

/-! ### Cells -/
/-- what the inner loop meets: from the greatest cells on -/
theorem best_miss {S : Px} {p h : Nat} (hs : S p = true) (h1 : bestH S p 4 < h) (h4 : h ≤ 4) : p % 4 ^ h ≠ 0 ∨ allP S p (4 ^ h) = false := by
  by_cases e : p % 4 ^ h = 0
  · exact .inr ((bestH_spec S p hs 4).2.2.2 h h1 h4 e)
  · exact .inl e
theorem fits_mod {p h : Nat} (hp : p < 3072) (h4 : h ≤ 4) (e : p % 4 ^ h = 0) : (p / 4 ^ h + 1) * 4 ^ h ≤ 3072 ∧ p / 4 ^ h * 4 ^ h = p := by
  have : h = 0 ∨ h = 1 ∨ h = 2 ∨ h = 3 ∨ h = 4 := by omega
  rcases this with rfl | rfl | rfl | rfl | rfl <;> simp at * <;> omega
/-- the law of one round of the inner loop -/
theorem best_round {S : Px} {p h : Nat} (hp : p < 3072) (hs : S p = true) (h1 : bestH S p 4 ≤ h) (h4 : h ≤ 4) :
    (p % 4 ^ h ≠ 0 ∧ bestH S p 4 < h) ∨ (p % 4 ^ h = 0 ∧ ((allP S (p / 4 ^ h * 4 ^ h) (4 ^ h) = false ∧ bestH S p 4 < h) ∨ (allP S (p / 4 ^ h * 4 ^ h) (4 ^ h) = true ∧ bestH S p 4 = h))) := by
  obtain ⟨b1, b2, b3, b4⟩ := bestH_spec S p hs 4
  by_cases e : p % 4 ^ h = 0
  · refine .inr ⟨e, ?_⟩
    rw [(fits_mod hp h4 e).2]
    rcases Nat.lt_or_ge (bestH S p 4) h with h2 | h2
    · exact .inl ⟨b4 h h2 h4 e, h2⟩
    · have e2 : bestH S p 4 = h := by omega
      rw [e2] at b2
      exact .inr ⟨b2, e2⟩
  · refine .inl ⟨e, ?_⟩
    rcases Nat.lt_or_ge (bestH S p 4) h with h2 | h2
    · exact h2
    · have e2 : bestH S p 4 = h := by omega
      rw [e2] at b1
      exact absurd b1 e
set_option maxRecDepth 100000 in
set_option maxHeartbeats 4000000 in
theorem Cells_any (S : Px) (g c : Nat) (w : World) (hX : BoxA w g S) :
    Calls Try.prog 22 #[.slice (some ⟨g, 0, none⟩) 3072 c] w (CelsQ (cellsP S) w) := by
  have HX := Lib.hid hX
  have HR0 := Lib.hid (rest_cells S)
  have HRE := Lib.hid (fun p (h : 3072 ≤ p) => rest_end (S := S) h)
  have HRN := Lib.hid (fun p (h : p < 3072) (hs : S p = false) => rest_no (S := S) h hs)
  have HRY := Lib.hid (fun p (h : p < 3072) (hs : S p = true) => rest_yes (S := S) h hs)
  have HBR := Lib.hid (fun p h (hp : p < 3072) (hs : S p = true) h1 h4 => best_round (S := S) (p := p) (h := h) hp hs h1 h4)
  have HBS := Lib.hid (fun p (hs : S p = true) => bestH_spec S p hs 4)
  have HCL := Lib.hid (cells_len S)
  have HFU := Lib.hid (fun W h p hX hh hp => reffull_any S g c h p W hX hh hp)
  have HWI := Lib.hid width_any
  unfold CelsQ
  generalize cellsP S = CP at *
  clear hX
  go_enter Try.func22, Try.ntmps22
  go_wp2
  go_loopg [3, 4] 3072 (fun gk s t wr => ∃ (p : Nat) (out : List (Int × Int)), t = .int .i64 p ∧ p ≤ 3072 ∧ 3072 - p ≤ gk ∧ Below w.heap.size w wr ∧ OwnP wr w.heap.size 37 s out ∧ Aside (out ++ restC S p = CP))
  case atStart => exact ⟨0, [], rfl, by omega, by omega, Below.refl _ _, OwnP.nil _ _ _, (by rw [List.nil_append]; exact HR0.out : [] ++ restC S 0 = CP)⟩
  case round =>
    obtain ⟨p, out, rfl, hp, hgk, hB, hO, HA⟩ := hrel
    by_cases hlt : p < 3072
    · have hltI : (p : Int) < 3072 := by omega
      have cc := (HX.out.on hB).cell hlt
      have HL := Lib.hid (And.intro hlt hgk)
      cases hs : S p
      · have HAA := Lib.hid HA.out
        have HRNp := Lib.hid (HRN.out p hlt hs)
        rw [hs] at cc
        have HBB := Lib.hid (And.intro hB hO)
        clear hB hO HA hs
        go_wp2
        go_roundg (3072 - (p + 1))
        case measure => have := HL.out; omega
        case rel => exact ⟨p + 1, out, by go_num, by have := HL.out; omega, by have := HL.out; omega, HBB.out.1, HBB.out.2, (by rw [← HRNp.out]; exact HAA.out : out ++ restC S (p + 1) = CP)⟩
      · have HAA := Lib.hid HA.out
        have HRYp := Lib.hid (HRY.out p hlt hs)
        have HBRp := Lib.hid (fun h h1 h4 => HBR.out p h hlt hs h1 h4)
        have hbs := HBS.out p hs
        have hb4 := hbs.2.2.1
        rw [hs] at cc
        have HBB := Lib.hid (And.intro hB hO)
        obtain ⟨wo, rfl⟩ : ∃ wo : World, wo = wr := ⟨_, rfl⟩
        have HX6 := Lib.hid (Box.new wo 37 #[.int .i64 0, .int .i64 0])
        have HB6 := Lib.hid (below_alloc wo (.cells #[.int .i64 0, .int .i64 0] 37))
        clear hB hO HA hs
        have HTR := Lib.hid (fun W (h : Below wo.heap.size wo W) => And.intro (HX.out.on (HBB.out.1.trs h)) (And.intro (HBB.out.2.kept h) (HBB.out.1.trs h)))
        have HNE := Lib.hid (fun (e : u3.ownBlock = some wo.heap.size) => Nat.lt_irrefl _ (World.ownsRow.lt HBB.out.2 _ e).2)
        generalize hBH : bestH S p 4 = B at *
        go_upto_region 8 with (fail)
        generalize hW6 : wo.alloc (.cells #[.int .i64 0, .int .i64 0] 37) = W6 at *
        clear hW6
        generalize hg6 : wo.heap.size = g6 at *
        have HG6 := Lib.hid hg6
        clear hg6
        go_loopg [20] 4 (fun gk x20 wi => ∃ (h : Nat) (q : Int), B ≤ h ∧ h ≤ 4 ∧ h - B ≤ gk ∧ Box wi g6 37 #[.int .i64 (4 - (h : Int)), .int .i64 q] ∧ Below g6 wo wi)
        case atStart => exact ⟨4, 0, hb4, by omega, by omega, HX6.out, HB6.out⟩
        case round =>
          obtain ⟨h, q, hBh, hh4, hhk, hbx, hBi⟩ := hrel
          have hcase := HBRp.out h hBh hh4
          have hwp := four_pos h
          have HW2 := Lib.hid (fun (h2 : p % 4 ^ h = 0) => fits_mod hlt hh4 h2)
          have HWh := Lib.hid (fun W (x : Int) => HWI.out h x W hh4)
          have HF2 := Lib.hid (fun W hX hp => HFU.out W h (p / 4 ^ h) hX hh4 hp)
          have hq1 : (p : Int) / ((4 ^ h : Nat) : Int) = ((p / 4 ^ h : Nat) : Int) := by simp
          have hq2 : (p : Int) % ((4 ^ h : Nat) : Int) = ((p % 4 ^ h : Nat) : Int) := by simp
          have hq3 : p / 4 ^ h ≤ 3072 := Nat.le_trans (Nat.div_le_self _ _) (by omega)
          have hq4 : p % 4 ^ h ≤ 3072 := Nat.le_trans (Nat.mod_le _ _) (by omega)
          have hwle : 4 ^ h ≤ 256 := Nat.le_trans (Nat.pow_le_pow_right (by omega) hh4) (by decide)
          have k0 := hbx.cell 0
          have k1 := hbx.cell 1
          have f0 := hbx.frozen 0
          have f1 := hbx.frozen 1
          simp at k0 k1
          have hw0 : (0 : Int) < ((4 ^ h : Nat) : Int) := by omega
          have hw1 : ¬ ((4 ^ h : Nat) : Int) = 0 := by omega
          have HLH := Lib.hid (And.intro hBh (And.intro hh4 hhk))
          have HOO : Hid ((4 : Int) - (h : Int) + 1 = 4 - ((h - 1 : Nat) : Int) ∨ h = 0) := Lib.hid (by omega)
          have ho4 : (4 : Int) - (h : Int) ≤ 4 := by omega
          have ho0 : 0 ≤ (4 : Int) - (h : Int) := by omega
          have HBI := Lib.hid (And.intro hbx hBi)
          have HPH : Hid (∀ n, n = 4 ^ h → n = 4 ^ h) := Lib.hid (fun n h => h)
          clear hbx hBi hBh hh4 hhk
          have hcase2 : ∃ (z al : Bool), ((((p % 4 ^ h : Nat) : Int) == 0) = z ∧ (z = true → p % 4 ^ h = 0) ∧ (allP S (p / 4 ^ h * 4 ^ h) (4 ^ h) = al) ∧ ((z && al) = false → B < h) ∧ ((z && al) = true → B = h)) := by
            rcases hcase with ⟨c1, c2⟩ | ⟨c1, ⟨c2, c3⟩ | ⟨c2, c3⟩⟩
            · exact ⟨false, _, by rw [beq_eq_false_iff_ne]; omega, fun h => (by cases h), rfl, fun _ => c2, fun h => (by simp at h)⟩
            · exact ⟨true, false, by rw [c1]; rfl, fun _ => c1, c2, fun _ => c3, fun h => (by simp at h)⟩
            · exact ⟨true, true, by rw [c1]; rfl, fun _ => c1, c2, fun h => (by simp at h), fun _ => c3⟩
          obtain ⟨z, al, hz, hz1, hal, hB1, hB2'⟩ := hcase2
          rw [hal] at HF2
          have HZ1 := Lib.hid (fun h => HW2.out (hz1 h))
          have HCA := Lib.hid (And.intro hB1 hB2')
          clear hcase hz1 hal hB1 hB2' HW2
          generalize hoo : (4 : Int) - (h : Int) = o at *
          have HO4 := Lib.hid hoo
          clear hoo
          generalize p % 4 ^ h = pm at *
          generalize hpd : p / 4 ^ h = pd at *
          have HPD := Lib.hid hpd
          clear hpd
          generalize hwh : 4 ^ h = wh at *
          have HWH := Lib.hid hwh
          clear hwh
          go_upto_region 11 with (go_at_call 56; refine (HWh.out _ _).mono ?_; rintro e w2 ⟨rfl, h2⟩; have hb2 := HBI.out.1.on h2; have hB2 := HBI.out.2.trans (h2.mono (by have := HBI.out.2.size; have := HG6.out; omega)); have k0 := hb2.cell 0; have k1 := hb2.cell 1; have f0 := hb2.frozen 0; have f1 := hb2.frozen 1; simp at k0 k1)
          have hb3 : Box (w2.setCell ⟨g6, 1, none⟩ (.int .i64 pd)) g6 37 #[.int .i64 o, .int .i64 pd] := by have := hb2.set_ 1 (.int .i64 pd); simpa using this
          have hB3 := hB2.setCell (p := ⟨g6, 1, none⟩) (by simp) (.int .i64 pd)
          clear k0 k1 f0 f1 hb2 hB2 h2
          generalize w2.setCell ⟨g6, 1, none⟩ (.int .i64 pd) = w3 at *
          have hsz3 := hb3.lt
          have k0 := hb3.cell 0
          have k1 := hb3.cell 1
          simp at k0 k1
          have HB3 := Lib.hid (And.intro hb3 hB3)
          clear hb3 hB3
          cases z
          · have HBL := Lib.hid (HCA.out.1 rfl)
            clear HCA HZ1
            go_wp2_with (first
              | (go_at_call 56; refine (HWh.out _ _).mono ?_; rintro e w4 ⟨rfl, h4⟩; have hb4 := HB3.out.1.on h4; have hB4 := HB3.out.2.trans (h4.mono (by omega)); have k0 := hb4.cell 0; have k1 := hb4.cell 1; have f0 := hb4.frozen 0; simp at k0 k1)
              | (go_at_call 57; refine (HF2.out _ (HTR.out _ hB4).1 HFT.out.1).mono ?_; rintro e w5 ⟨rfl, h5⟩; have hb5 := hb4.on h5; have hB5 := hB4.trans (h5.mono (by have := hb4.lt; omega)); have k0 := hb5.cell 0; have k1 := hb5.cell 1; have f0 := hb5.frozen 0; simp at k0 k1))
            go_roundg (h - 1 - B)
            case measure => have := HLH.out; have := HBL.out; omega
            case rel =>
              have hBl := HBL.out
              have eo : o + 1 = 4 - ((h - 1 : Nat) : Int) := by rw [← HO4.out]; omega
              refine ⟨h - 1, pd, by omega, by have := HLH.out; omega, by omega, ?_, hB4.setCell (p := ⟨g6, 0, none⟩) (by simp) _⟩
              rw [← eo]
              have := hb4.set_ 0 (.int .i64 (o + 1))
              simpa using this
          · have HFT := Lib.hid (HZ1.out rfl)
            cases al
            · have HBL := Lib.hid (HCA.out.1 rfl)
              clear HCA HZ1
              go_wp2_with (first
              | (go_at_call 56; refine (HWh.out _ _).mono ?_; rintro e w4 ⟨rfl, h4⟩; have hb4 := HB3.out.1.on h4; have hB4 := HB3.out.2.trans (h4.mono (by omega)); have k0 := hb4.cell 0; have k1 := hb4.cell 1; have f0 := hb4.frozen 0; simp at k0 k1)
              | (go_at_call 57; refine (HF2.out _ (HTR.out _ hB4).1 HFT.out.1).mono ?_; rintro e w5 ⟨rfl, h5⟩; have hb5 := hb4.on h5; have hB5 := hB4.trans (h5.mono (by have := hb4.lt; omega)); have k0 := hb5.cell 0; have k1 := hb5.cell 1; have f0 := hb5.frozen 0; simp at k0 k1))
              go_roundg (h - 1 - B)
              case measure => have := HLH.out; have := HBL.out; omega
              case rel =>
                have hBl := HBL.out
                have eo : o + 1 = 4 - ((h - 1 : Nat) : Int) := by rw [← HO4.out]; omega
                refine ⟨h - 1, pd, by omega, by have := HLH.out; omega, by omega, ?_, hB5.setCell (p := ⟨g6, 0, none⟩) (by simp) _⟩
                rw [← eo]
                have := hb5.set_ 0 (.int .i64 (o + 1))
                simpa using this
            · have HBL := Lib.hid (HCA.out.2 rfl)
              clear HCA HZ1
              go_upto_region 12 with (first
              | (go_at_call 56; refine (HWh.out _ _).mono ?_; rintro e w4 ⟨rfl, h4⟩; have hb4 := HB3.out.1.on h4; have hB4 := HB3.out.2.trans (h4.mono (by omega)); have k0 := hb4.cell 0; have k1 := hb4.cell 1; have f0 := hb4.frozen 0; simp at k0 k1)
              | (go_at_call 57; refine (HF2.out _ (HTR.out _ hB4).1 HFT.out.1).mono ?_; rintro e w5 ⟨rfl, h5⟩; have hb5 := hb4.on h5; have hB5 := hB4.trans (h5.mono (by have := hb4.lt; omega)); have k0 := hb5.cell 0; have k1 := hb5.cell 1; have f0 := hb5.frozen 0; simp at k0 k1))
              have hO5 := (HTR.out _ hB5).2.1
              have hBw5 := (HTR.out _ hB5).2.2
              have HO5 := Lib.hid (hO5.kept (below_alloc w5 (.cells #[.int .i64 o, .int .i64 pd] 37)))
              have HNW := Lib.hid (Box.new w5 37 #[.int .i64 o, .int .i64 pd])
              have hszw := hBw5.size
              have HBW := Lib.hid (And.intro (hBw5.trs (below_alloc w5 (.cells #[.int .i64 o, .int .i64 pd] 37))) (hb5.alloc (.cells #[.int .i64 o, .int .i64 pd] 37)))
              have hole : out.length ≤ 1000000 := by
                have := HAA.out
                have h2 := HCL.out
                rw [← this, List.length_append] at h2
                omega
              clear hO5 hBw5
              go_wp2_with (first
                | (refine wp_app_pair2 22 37 rfl (.tmp 41) (.tmp 43) rfl Try.underlying22 infoCel _ w.heap.size w5.heap.size u3 out o pd rfl rfl HO5.out HNW.out hole (by simp; omega) ?_; intro v6 w6 hO6 hB6 hS6 hF6; have hb6 := Box.spared HBW.out.2 hS6 HNE.out; have k0 := hb6.cell 0; have k1 := hb6.cell 1; simp at k0 k1; clear hS6 hF6)
                | (go_at_call 56; refine (HWh.out _ _).mono ?_; rintro e w7 ⟨rfl, h7⟩))
              have eB : B = h := HBL.out
              have hz := HFT.out
              have hR := HRYp.out
              rw [eB, HO4.out, HWH.out, HPD.out] at hR
              go_roundg (3072 - (p + wh))
              case measure => omega
              case rel => exact ⟨p + wh, out ++ [(o, (pd : Int))], by go_num, by rw [Nat.add_mul] at hz; omega, by omega, (HBW.out.1.trans hB6).trs h7, hO6.kept h7, (by rw [List.append_assoc, List.singleton_append, ← hR]; exact HAA.out : (out ++ [(o, (pd : Int))]) ++ restC S (p + wh) = CP)⟩
    · obtain rfl : p = 3072 := by omega
      have HAA := HA.out
      rw [HRE.out _ (Nat.le_refl _), List.append_nil] at HAA
      obtain ⟨A, c2, rfl, hrd⟩ := hO.rd
      have HBB := Lib.hid (And.intro hB hrd)
      subst HAA
      clear hB hO hrd
      generalize hn : out.length = n at *
      go_wp2
      go_ret
      exact ⟨HBB.out.1, A, c2, by rw [hn]; first | done | rfl, HBB.out.2⟩
end Go.Proofs.Ytgbpmleipdecgaa
