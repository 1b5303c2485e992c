/- Walks over the reference's sky: Coarse. -/
import Derived.Test.YtolgpigdioanoaaSkyEb
namespace Go.Proofs.Ytolgpigdioanoaa
open Go.RowKit
set_option linter.unusedSimpArgs false
set_option linter.unusedVariables false

/-- the pixels of the cells of which one of the first i pixels is there -/
def remC (U : Px) (h i : Nat) : Px := fun x => (List.range i).any fun y => U y && decide (x / 4 ^ h = y / 4 ^ h)
theorem remC_zero (U : Px) (h : Nat) : remC U h 0 = fun _ => false := by funext x; simp [remC]
theorem remC_no {U : Px} {h i : Nat} (hu : U i = false) : remC U h (i + 1) = remC U h i := by
  funext x
  simp [remC, List.range_succ, hu]
theorem remC_yes {U : Px} {h i : Nat} (hu : U i = true) : putP (remC U h i) (i - i % 4 ^ h) (4 ^ h) = remC U h (i + 1) := by
  have e : i - i % 4 ^ h = i / 4 ^ h * 4 ^ h := by have := Nat.div_add_mod i (4 ^ h); rw [Nat.mul_comm] at this; omega
  rw [e, putP_cell]
  funext x
  rw [inC_mk]
  simp [remC, List.range_succ, hu]
theorem remC_all (U : Px) {h : Nat} (hh : h ≤ 4) : ∀ x, x < 3072 → remC U h 3072 x = coarP U h x := fun x hx => by
  have hp := four_pos h
  have hd : ∃ m, 3072 = m * 4 ^ h := by
    have : h = 0 ∨ h = 1 ∨ h = 2 ∨ h = 3 ∨ h = 4 := by omega
    rcases this with rfl | rfl | rfl | rfl | rfl
    · exact ⟨3072, by decide⟩
    · exact ⟨768, by decide⟩
    · exact ⟨192, by decide⟩
    · exact ⟨48, by decide⟩
    · exact ⟨12, by decide⟩
  obtain ⟨m, hm⟩ := hd
  have hfit : x / 4 ^ h * 4 ^ h + 4 ^ h ≤ 3072 := by
    have h1 : x / 4 ^ h < m := by rw [Nat.div_lt_iff_lt_mul hp, ← hm]; exact hx
    have h2 := Nat.mul_le_mul_right (4 ^ h) (show x / 4 ^ h + 1 ≤ m by omega)
    rw [Nat.add_mul, Nat.one_mul, ← hm] at h2
    exact h2
  show remC U h 3072 x = anyP U (x / 4 ^ h * 4 ^ h) (4 ^ h)
  cases ha : anyP U (x / 4 ^ h * 4 ^ h) (4 ^ h)
  · rw [anyP_no] at ha
    unfold remC
    rw [List.any_eq_false]
    intro y _
    rw [Bool.and_eq_true, decide_eq_true_eq]
    rintro ⟨h1, h2⟩
    have h3 := Nat.div_add_mod y (4 ^ h)
    have h4 := Nat.mod_lt y hp
    have := ha (y % 4 ^ h) h4
    rw [h2, Nat.mul_comm, h3, h1] at this
    cases this
  · unfold remC
    rw [List.any_eq_true]
    have hn : ¬ ∀ k, k < 4 ^ h → U (x / 4 ^ h * 4 ^ h + k) = false := fun hf => by rw [anyP_no.2 hf] at ha; cases ha
    obtain ⟨k, hk⟩ := Classical.not_forall.1 hn
    have hk2 : k < 4 ^ h := Classical.byContradiction fun h0 => hk fun h1 => absurd h1 h0
    have hk3 : U (x / 4 ^ h * 4 ^ h + k) = true := by
      cases hu : U (x / 4 ^ h * 4 ^ h + k)
      · exact absurd (fun _ => hu) hk
      · rfl
    refine ⟨x / 4 ^ h * 4 ^ h + k, by rw [List.mem_range]; omega, ?_⟩
    rw [hk3, Bool.true_and, decide_eq_true_eq, Nat.mul_comm, Nat.mul_add_div hp, Nat.div_eq_of_lt hk2]
    omega
theorem start_fits {h i : Nat} (hh : h ≤ 4) (hi : i < 3072) : i - i % 4 ^ h + 4 ^ h ≤ 3072 := by
  have : h = 0 ∨ h = 1 ∨ h = 2 ∨ h = 3 ∨ h = 4 := by omega
  rcases this with rfl | rfl | rfl | rfl | rfl <;> simp only [Nat.reducePow] <;> omega
set_option maxRecDepth 100000 in
set_option maxHeartbeats 4000000 in
theorem refCoarse_any (A : Option Addr) (c : Nat) (l : List (Int × Int)) (k : Int) (w : World) (hr : RdP w w.heap.size A l) (hl : l.length ≤ 1000000) :
    Calls Try.prog 44 #[.slice A l.length c, .int .i64 k] w (LstQ (coarL l k) (coarE l k) w) := by
  have HV := Lib.hid (refValid_any A c l w hr hl)
  have HA := Lib.hid (fun (h : vldC l = true) W (hW : Below w.heap.size w W) => AreaOf_any A c l W (hr.on hW) hl (badB_no (vldC_iff.1 h).2.1))
  have HI := Lib.hid (fun W => isOrder_any k W)
  have HN1 : Hid (vldC l = false → ∀ W, Below w.heap.size w W → LstQ (coarL l k) (coarE l k) w (.returned (.tuple #[.slice none 0 0, .int .i64 60])) W) := Lib.hid (fun h W hW => by
    unfold coarL coarE; rw [h]; exact LstQ.no_ hW)
  have HN2 : Hid (vldC l = true → btw 0 k 4 = false → ∀ W, Below w.heap.size w W → LstQ (coarL l k) (coarE l k) w (.returned (.tuple #[.slice none 0 0, .int .i64 2])) W) := Lib.hid (fun h h2 W hW => by
    unfold coarL coarE; rw [h, h2]; exact LstQ.no_ hW)
  have HY : Hid (vldC l = true → btw 0 k 4 = true → coarL l k = toldL (coarP (uniP l) (4 - k).toNat) ∧ coarE l k = toldE (coarP (uniP l) (4 - k).toNat)) := Lib.hid (fun h h2 => by
    unfold coarL coarE; rw [h, h2]; exact ⟨rfl, rfl⟩)
  generalize coarL l k = RL at *
  generalize coarE l k = RE at *
  clear hr hl
  cases hv : vldC l
  · rw [hv] at HV
    have H0 := Lib.hid (HN1.out hv)
    clear HA HN1 HN2 HY hv
    generalize l.length = n at *
    go_enter Try.func44, Try.ntmps44
    go_wp2_with (go_at_call 45; refine HV.out.mono ?_; rintro e w1 ⟨rfl, h1⟩)
    go_ret2
    exact H0.out _ h1
  · rw [hv] at HV
    cases hk : btw 0 k 4
    · rw [hk] at HI
      have H0 := Lib.hid (HN2.out hv hk)
      clear HA HN1 HN2 HY hv hk
      generalize l.length = n at *
      go_enter Try.func44, Try.ntmps44
      go_wp2_with (first
        | (go_at_call 45; refine HV.out.mono ?_; rintro e w1 ⟨rfl, h1⟩)
        | (go_at_call 73; refine (HI.out _).mono ?_; rintro e w' ⟨rfl, rfl⟩))
      go_ret2
      exact H0.out _ h1
    · rw [hk] at HI
      obtain ⟨eL, eE⟩ := HY.out hv hk
      have HAA := Lib.hid (HA.out hv)
      have HNO := Lib.hid Nothing_any
      have hh : (4 - k).toNat ≤ 4 := by rw [btw_iff] at hk; omega
      have hkk : (4 : Int) - ((4 - k).toNat : Int) = k := by rw [btw_iff] at hk; omega
      have HW := Lib.hid (fun W => width_any (4 - k).toNat 0 W hh)
      rw [hkk] at HW
      have HHA := Lib.hid (remC_all (uniP l) hh)
      have HHZ := Lib.hid (remC_zero (uniP l) (4 - k).toNat)
      have HHN := Lib.hid (fun i (h : uniP l i = false) => remC_no (h := (4 - k).toNat) h)
      have HHY := Lib.hid (fun i (h : uniP l i = true) => remC_yes (h := (4 - k).toNat) h)
      have HSF := Lib.hid (fun i (hi : i < 3072) => start_fits hh hi)
      have hwp := four_pos (4 - k).toNat
      have hwle : 4 ^ (4 - k).toNat ≤ 256 := Nat.le_trans (Nat.pow_le_pow_right (by omega) hh) (by decide)
      have HT := Lib.hid (fun g W hX => set_any (coarP (uniP l) (4 - k).toNat) g W hX)
      clear HA HN1 HN2 HY hv hk hh hkk
      unfold AreQ at HAA HNO
      unfold LstQ at HT
      generalize toldL (coarP (uniP l) (4 - k).toNat) = TL at *
      generalize toldE (coarP (uniP l) (4 - k).toNat) = TE at *
      generalize coarP (uniP l) (4 - k).toNat = CP at *
      generalize hRM : remC (uniP l) (4 - k).toNat = RM at *
      clear hRM
      generalize 4 ^ (4 - k).toNat = wh at *
      generalize uniP l = U at *
      generalize l.length = n at *
      have hw0 : (0 : Int) < (wh : Int) := by omega
      have hw1 : ¬ (wh : Int) = 0 := by omega
      go_enter Try.func44, Try.ntmps44
      go_wp2_with (first
        | (go_at_call 45; refine HV.out.mono ?_; rintro e w1 ⟨rfl, h1⟩)
        | (go_at_call 73; refine (HI.out _).mono ?_; rintro e w' ⟨rfl, rfl⟩)
        | (go_at_call 103; refine (HAA.out _ h1).mono ?_; rintro e w3 ⟨g1, rfl, hg1, h3', hx1⟩; have h3 := h1.trs h3')
        | (go_at_call 99; refine (HNO.out _).mono ?_; rintro e w4 ⟨g, rfl, hg, h4', hx⟩)
        | (go_at_call 104; refine (HW.out _).mono ?_; rintro e w5 ⟨rfl, h5'⟩; have h5 := h4'.trs h5'; have hx5 := hx.on h5'))
      have HX1 := Lib.hid (And.intro hx1 (And.intro hg h3))
      clear hx1 hg h3 h3' h1 hg1 h4' h5'
      go_loopg [9] 3072 (fun gk t wr => ∃ i : Nat, t = .int .i64 i ∧ i ≤ 3072 ∧ 3072 - i ≤ gk ∧ BoxA wr g (RM i) ∧ Below w3.heap.size w3 wr)
      case atStart => exact ⟨0, rfl, by omega, by omega, by rw [HHZ.out]; exact hx5, h5⟩
      case round =>
        obtain ⟨i, rfl, hi, hgk, hX, hB⟩ := hrel
        by_cases hlt : i < 3072
        · have hltI : (i : Int) < 3072 := by omega
          have hq2 : (i : Int) % (wh : Int) = ((i % wh : Nat) : Int) := by simp
          have hq3 : i % wh ≤ i := Nat.mod_le _ _
          have hfit := HSF.out i hlt
          have hiw : IntKind.i64.wrap ((i : Int) - ((i % wh : Nat) : Int)) = ((i - i % wh : Nat) : Int) := by rw [IntWalk.i64_in _ (by omega)]; omega
          have hiw2 : wrap64 ((i : Int) - ((i % wh : Nat) : Int)) = ((i - i % wh : Nat) : Int) := by rw [IntWalk.wrap64_in _ (by omega)]; omega
          have HYi := Lib.hid (HHY.out i)
          have HNi := Lib.hid (HHN.out i)
          have HPZ := Lib.hid (putP_zero (RM i) (i - i % wh))
          have HPS := Lib.hid (putP_succ (RM i) (i - i % wh))
          have HL := Lib.hid (And.intro hlt hgk)
          have HXB := Lib.hid (And.intro hX hB)
          have c1 := (HX1.out.1.on hB).cell hlt
          clear hX hB
          generalize RM i = S0 at *
          cases hu : U i
          · rw [hu] at c1
            have HNN := Lib.hid (HNi.out hu)
            clear hu
            obtain ⟨wo, rfl⟩ : ∃ wo : World, wo = wr := ⟨_, rfl⟩
            go_wp2
            go_loopg [10] 1 (fun gk t wi => t = .int .i64 0 ∧ wi = wo)
            case atStart => exact ⟨rfl, rfl⟩
            case round =>
              obtain ⟨rfl, rfl⟩ := hrel
              go_wp2
              go_roundg (3072 - (i + 1))
              case measure => have := HL.out; omega
              case rel => exact ⟨i + 1, by go_num, by have := HL.out; omega, by have := HL.out; omega, by rw [HNN.out]; exact HXB.out.1, HXB.out.2⟩
          · rw [hu] at c1
            have HYY := Lib.hid (HYi.out hu)
            have HU := Lib.hid hu
            clear hu c1
            obtain ⟨wo, rfl⟩ : ∃ wo : World, wo = wr := ⟨_, rfl⟩
            have HXG := Lib.hid (HX1.out.1.on HXB.out.2)
            generalize hst : i - i % wh = st at *
            generalize i % wh = im at *
            clear hst
            go_wp2
            go_loopg [10] wh (fun gk t wi => ∃ j : Nat, t = .int .i64 j ∧ j ≤ wh ∧ wh - j ≤ gk ∧ BoxA wi g (putP S0 st j) ∧ Below w3.heap.size w3 wi)
            case atStart => exact ⟨0, rfl, by omega, by omega, by rw [HPZ.out]; exact HXB.out.1, HXB.out.2⟩
            case round =>
              obtain ⟨j, rfl, hj, hkj, hX, hB⟩ := hrel
              have c1 := (HX1.out.1.on hB).cell hlt
              rw [HU.out] at c1
              by_cases hlj : j < wh
              · have hljI : (j : Int) < (wh : Int) := by omega
                have cc := hX.cell (i := st + j) (by omega)
                have cf := hX.frozen (st + j)
                have HST := Lib.hid (hX.set_ (st + j) true)
                have HPJ := Lib.hid (HPS.out j)
                have HSTT := Lib.hid set_true
                have HBJ := Lib.hid hB
                have HLJ := Lib.hid (And.intro hlj hkj)
                clear hB hX
                generalize putP S0 st j (st + j) = old at *
                go_wp2
                go_roundg (wh - (j + 1))
                case measure => have := HLJ.out; omega
                case rel => exact ⟨j + 1, by go_num, by have := HLJ.out; omega, by have := HLJ.out; omega, by rw [← HPJ.out, ← HSTT.out]; exact HST.out, HBJ.out.setCell (p := ⟨g, st + j, none⟩) HX1.out.2.1 _⟩
              · obtain rfl : j = wh := by omega
                have hljI : ¬ (j : Int) < (j : Int) := by omega
                rw [HYY.out] at hX
                have HBJ := Lib.hid (And.intro hX hB)
                clear hB hX
                go_wp2
                go_roundg (3072 - (i + 1))
                case measure => have := HL.out; omega
                case rel => exact ⟨i + 1, by go_num, by have := HL.out; omega, by have := HL.out; omega, HBJ.out.1, HBJ.out.2⟩
        · obtain rfl : i = 3072 := by omega
          have HXE := Lib.hid (hX.congr HHA.out)
          have HB1 := Lib.hid (HX1.out.2.2.trs hB)
          clear hX hB
          go_wp2_with (go_at_call 100; refine (HT.out _ _ HXE.out).mono ?_; rintro e w9 ⟨h9, A9, c9, rfl, hr9⟩)
          go_ret2
          refine ⟨HB1.out.trs h9, A9, c9, ?_, ?_⟩
          · rw [eL, eE]; first | done | rfl
          · rw [eL]; exact hr9
end Go.Proofs.Ytolgpigdioanoaa
