/- The walk of the law AlertSeveral. -/
import Derived.Test.YtdafiblnanpiiaaAlMc
import Derived.Test.YtdafiblnanpiiaaAlR
namespace Go.Proofs.Ytdafiblnanpiiaa
open Go.RowKit
set_option linter.unusedSimpArgs false
set_option linter.unusedVariables false

/-- is one of the first tasks alone too long? -/
def longB (L : List (Int × Int × Int)) : Nat → Bool
  | 0 => false
  | i + 1 => longB L i || decide (tb L i - ta L i < tc L i)
theorem longB_is {L : List (Int × Int × Int)} (n : Nat) (h : longB L n = true) : ∃ i, i < n ∧ tb L i - ta L i < tc L i := by
  induction n with
  | zero => cases h
  | succ n ih =>
    simp only [longB, Bool.or_eq_true, decide_eq_true_eq] at h
    rcases h with h | h
    · obtain ⟨i, h1, h2⟩ := ih h; exact ⟨i, by omega, h2⟩
    · exact ⟨n, by omega, h⟩
theorem Iso_sev {L : List (Int × Int × Int)} (a b : Int) {k : Nat} (hv : vldT L = true) (h1 : 1 ≤ k) (h2 : k ≤ 4) :
    IsoV L a b k = .tuple #[.bool false, .int .i64 2] ∨ IsoV L a b k = .tuple #[.bool false, .int .i64 0] ∨ (IsoV L a b k = .tuple #[.bool true, .int .i64 0] ∧ ¬ (1 ≤ mac L ∧ mac L ≤ k)) := by
  have hk : btw 1 (k : Int) 4 = true := btw_iff.2 (by omega)
  cases hs : strB a b
  · exact .inl (by unfold IsoV IsoE; rw [hv, hs]; rfl)
  · have h := strB_iff.1 hs
    have e : IsoE L a b k = 0 := by unfold IsoE; rw [hv, hs, hk]; rfl
    unfold IsoV
    rw [e]
    by_cases hd : (k : Int) * (b - a) < dem L a b
    · rw [decide_eq_true hd]
      refine .inr (.inr ⟨rfl, fun hm => ?_⟩)
      have h3 := sevB_mac L h1 h2
      rw [decide_eq_true hm] at h3
      have h4 := SevP.not_over (L := L) (k := k) a.toNat b.toNat (by omega) (by omega) (by rw [Int.toNat_of_nonneg h.1, Int.toNat_of_nonneg (by omega : 0 ≤ b)]; exact hd)
      exact h4 (sevB_iff.1 h3)
    · rw [decide_eq_false hd]; exact .inr (.inl rfl)

set_option maxRecDepth 100000 in
set_option maxHeartbeats 16000000 in
theorem AlertSeveral_0a (w : World) (A : Option Addr) (c : Nat) (L : List (Int × Int × Int)) (hr : RdT w w.heap.size A L) (hl : L.length ≤ 40) (hv : vldT L = true) (hmc : mac L = 0) (hlg : longB L L.length = false) (a b : Int) :
    Calls Try.prog 11 #[.slice A L.length c, .agg #[.int .i64 a, .int .i64 b]] w fun e w' => e = .returned (.bool true) ∧ Below w.heap.size w w' := by
  have hB0 := below_alloc w (.cells #[.int .i64 a, .int .i64 b] 40)
  have hbx := Box.new w 40 #[.int .i64 a, .int .i64 b]
  have HR := Lib.hid (hr.on hB0)
  have HB0 := Lib.hid hB0
  have HBX := Lib.hid hbx
  clear hB0 hbx hr
  have hd : decide ((40 : Int) < L.length) = false := by simp; omega
  have hl2 : L.length ≤ 1125899906842624 := by omega
  have HV := Lib.hid (refValid_any A c L _ HR.out hl2)
  rw [hv] at HV
  have hok := okT_of hv
  have hn1 := hok.1.1
  have hn12 := hok.1.2
  generalize hW0 : w.alloc (.cells #[.int .i64 a, .int .i64 b] 40) = W0 at *
  have H1 := Lib.hid (fun W (hW : Below W0.heap.size W0 W) => Can_any A c L W (HR.out.on hW) hl2)
  have H2 := Lib.hid (fun W (hW : Below W0.heap.size W0 W) => Machines_any A c L W (HR.out.on hW) hl2)
  have H3 := Lib.hid (fun W (k : Nat) (h1 : 1 ≤ k) (h2 : k ≤ 4) (hW : Below W0.heap.size W0 W) => (show Calls Try.prog 27 #[.slice A L.length c, .int .i64 k] W fun e w' => e = .returned (.tuple #[.bool (decide (1 ≤ mac L ∧ mac L ≤ k)), .int .i64 0]) ∧ Below W.heap.size W w' from by
    have h := Several_any A c L k W (HR.out.on hW) hl2
    rwa [SvV_ok hv (btw_iff.2 (by omega)), sevB_mac L h1 h2] at h))
  have H4 := Lib.hid (fun W (k : Nat) (hW : Below W0.heap.size W0 W) => IsOverfull_any A c L a b k W (HR.out.on hW) hl2)
  have HIS := Lib.hid (fun (k : Nat) (h1 : 1 ≤ k) (h2 : k ≤ 4) => Iso_sev (L := L) a b hv h1 h2)
  have HCE : Hid (∀ W, Below W0.heap.size W0 W → W.cell? ⟨w.heap.size, 0, none⟩ = some (.int .i64 a) ∧ W.cell? ⟨w.heap.size, 1, none⟩ = some (.int .i64 b)) := Lib.hid (fun W hW => by
    have hb := HBX.out.on hW
    exact ⟨hb.cell 0, hb.cell 1⟩)
  have e1 : MachV L = .tuple #[.int .i64 (mac L), .int .i64 (if mac L = 0 then 5 else 0)] := by unfold MachV; rw [hv]; rfl
  have e2 : decide (0 ≤ slk L) = decide (1 ≤ mac L ∧ mac L ≤ 1) := by
    have h := sevB_mac L (k := 1) (by omega) (by omega)
    rw [← sev_one hok]
    simpa using h
  rw [CanV_yes hv, e2] at H1
  rw [e1] at H2
  have HLO : Hid (mac L ≠ 0 → longB L L.length = false) := Lib.hid (fun hm => by
    cases h : longB L L.length
    · rfl
    · obtain ⟨i, h1, h2⟩ := longB_is _ h
      have h3 := sevB_mac L (k := 4) (by omega) (by omega)
      rw [decide_eq_true ⟨Nat.pos_of_ne_zero hm, mac_le L⟩] at h3
      exact absurd (sevB_iff.1 h3) (SevP.not_long hok i h1 h2))
  have HLS : Hid (∀ i, longB L (i + 1) = (longB L i || decide (tb L i - ta L i < tc L i))) := Lib.hid (fun _ => rfl)
  have HL0 : Hid (longB L 0 = false) := Lib.hid rfl
  have HOK := Lib.hid hok.2
  have hm4 := mac_le L
  have HLG := Lib.hid hlg
  clear hlg
  clear hok hv HBX e1 e2
  generalize longB L = lg at *
  have HIV : Hid (∀ k : Nat, ∃ v, IsoV L a b k = v) := Lib.hid (fun k => ⟨_, rfl⟩)
  generalize (fun k : Nat => IsoV L a b k) = iv at *
  generalize hmm : mac L = m at *
  generalize hn : L.length = n at *
  have HN := Lib.hid hn
  have HW0 := Lib.hid hW0
  clear hW0 hn
  have hmm2 : m = 0 := hmc
  clear hmm hmc
  subst hmm2
  clear hm4
  go_enter Try.func11, Try.ntmps11
  go_wp2_with (first
    | (go_at_call 14; refine (Long_any _ _ _ _).mono ?_; rintro e w' ⟨rfl, rfl⟩; rw [HW0.out])
    | (go_at_call 22; refine HV.out.mono ?_; rintro e w1 ⟨rfl, h1⟩)
    | (go_at_call 24; refine (H1.out _ h1).mono ?_; rintro e w2 ⟨rfl, h2⟩; have h2 := h1.trs h2)
    | (go_at_call 29; refine (H2.out _ h2).mono ?_; rintro e w3 ⟨rfl, h3⟩; have HB3 := Lib.hid (h2.trs h3); clear h1 h2 h3))
  go_loopg [9, 10] n (fun k x9 t wr => ∃ i : Nat, x9 = .bool (lg i) ∧ t = .int .i64 i ∧ i ≤ n ∧ n - i ≤ k ∧ Below w3.heap.size w3 wr)
  case atStart => exact ⟨0, by rw [HL0.out], rfl, by omega, by omega, Below.refl _ _⟩
  case round =>
    obtain ⟨i, rfl, rfl, hi, hk, hB⟩ := hrel
    by_cases hlt : i < n
    · obtain ⟨bb, o, rfl, hbb, c1, c2, c3⟩ := HR.out.at_ (k := i) (by rw [HN.out]; exact hlt)
      rw [← (HB3.out.trs hB).cell hbb] at c1 c2 c3
      have hoki := HOK.out i hlt
      have HLi := Lib.hid (HLS.out i)
      have HB := Lib.hid hB
      clear hB
      generalize ta L i = x at *
      generalize tb L i = y at *
      generalize tc L i = z at *
      have v1 : IntKind.i64.wrap (y - x) = y - x := IntWalk.i64_in _ (by omega)
      have v2 : wrap64 (y - x) = y - x := IntWalk.wrap64_in _ (by omega)
      have hi0 : (i : Int) < (n : Int) := by omega
      generalize lg i = g at *
      clear hoki
      cases g
      all_goals
        go_wp2
        go_quiet (fail)
        go_wp2
        go_roundg (n - (i + 1))
        case measure => omega
        case rel => exact ⟨i + 1, by rw [HLi.out]; simp, by go_num, by omega, by omega, HB.out.drewsN _⟩
    · obtain rfl : i = n := by omega
      have HB := Lib.hid (HB3.out.trs hB)
      have hlo := HLO.out
      generalize hlg2 : lg i = lo at *
      clear hB
      clear hlo
      have hlo2 := HLG.out
      first | (rw [hlg2] at hlo2) | skip
      subst hlo2
      go_wp2
      go_loopg [11, 12, 13, 14, 15, 16] 5 (fun k x11 t x13 x14 x15 x16 wi => ∃ j : Nat, t = .int .i64 j ∧ x11 = .bool (decide (2 ≤ j ∧ 1 ≤ 0 ∧ 0 ≤ j - 1)) ∧ 1 ≤ j ∧ j ≤ 5 ∧ 5 - j ≤ k ∧ Below W0.heap.size W0 wi)
      case atStart => exact ⟨1, rfl, rfl, by omega, by omega, by omega, HB.out⟩
      case round =>
        obtain ⟨j, rfl, rfl, hj1, hj5, hkj, hBj⟩ := hrel
        have HBj := Lib.hid hBj
        obtain ⟨g0, g1⟩ := HCE.out _ hBj
        clear hBj
        rcases (show j = 1 ∨ j = 2 ∨ j = 3 ∨ j = 4 ∨ j = 5 by omega) with rfl | rfl | rfl | rfl | rfl
        · have HI4 := Lib.hid (H4.out)
          have HS3 := Lib.hid (fun W (hW : Below W0.heap.size W0 W) => H3.out W 1 (by omega) (by omega) hW)
          have HO4 := Lib.hid (fun W (hW : Below W0.heap.size W0 W) => H4.out W 1 hW)
          rcases HIS.out 1 (by omega) (by omega) with hiv | hiv | ⟨hiv, hno⟩
          · rw [hiv] at HO4
            clear hiv HI4
            go_wp2_with (first
              | (go_at_call 27; refine (HS3.out _ HBj.out).mono ?_; rintro e w5 ⟨rfl, h5⟩; have h5 := HBj.out.trs h5; obtain ⟨f0, f1⟩ := HCE.out _ h5)
              | (go_at_call 25; refine (HO4.out _ h5).mono ?_; rintro e w6 ⟨rfl, h6⟩; have h6 := h5.trs h6))
            go_roundg (5 - 2)
            case measure => omega
            case rel => exact ⟨2, by first | rfl | go_num, by first | rfl | (simp), by omega, by omega, by omega, h6⟩
          · rw [hiv] at HO4
            clear hiv HI4
            go_wp2_with (first
              | (go_at_call 27; refine (HS3.out _ HBj.out).mono ?_; rintro e w5 ⟨rfl, h5⟩; have h5 := HBj.out.trs h5; obtain ⟨f0, f1⟩ := HCE.out _ h5)
              | (go_at_call 25; refine (HO4.out _ h5).mono ?_; rintro e w6 ⟨rfl, h6⟩; have h6 := h5.trs h6))
            go_roundg (5 - 2)
            case measure => omega
            case rel => exact ⟨2, by first | rfl | go_num, by first | rfl | (simp), by omega, by omega, by omega, h6⟩
          · rw [hiv] at HO4
            clear hiv HI4 hno
            go_wp2_with (first
              | (go_at_call 27; refine (HS3.out _ HBj.out).mono ?_; rintro e w5 ⟨rfl, h5⟩; have h5 := HBj.out.trs h5; obtain ⟨f0, f1⟩ := HCE.out _ h5)
              | (go_at_call 25; refine (HO4.out _ h5).mono ?_; rintro e w6 ⟨rfl, h6⟩; have h6 := h5.trs h6))
            go_roundg (5 - 2)
            case measure => omega
            case rel => exact ⟨2, by first | rfl | go_num, by first | rfl | (simp), by omega, by omega, by omega, h6⟩
        · have HI4 := Lib.hid (H4.out)
          have HS3 := Lib.hid (fun W (hW : Below W0.heap.size W0 W) => H3.out W 2 (by omega) (by omega) hW)
          have HO4 := Lib.hid (fun W (hW : Below W0.heap.size W0 W) => H4.out W 2 hW)
          rcases HIS.out 2 (by omega) (by omega) with hiv | hiv | ⟨hiv, hno⟩
          · rw [hiv] at HO4
            clear hiv HI4
            go_wp2_with (first
              | (go_at_call 27; refine (HS3.out _ HBj.out).mono ?_; rintro e w5 ⟨rfl, h5⟩; have h5 := HBj.out.trs h5; obtain ⟨f0, f1⟩ := HCE.out _ h5)
              | (go_at_call 25; refine (HO4.out _ h5).mono ?_; rintro e w6 ⟨rfl, h6⟩; have h6 := h5.trs h6))
            go_roundg (5 - 3)
            case measure => omega
            case rel => exact ⟨3, by first | rfl | go_num, by first | rfl | (simp), by omega, by omega, by omega, h6⟩
          · rw [hiv] at HO4
            clear hiv HI4
            go_wp2_with (first
              | (go_at_call 27; refine (HS3.out _ HBj.out).mono ?_; rintro e w5 ⟨rfl, h5⟩; have h5 := HBj.out.trs h5; obtain ⟨f0, f1⟩ := HCE.out _ h5)
              | (go_at_call 25; refine (HO4.out _ h5).mono ?_; rintro e w6 ⟨rfl, h6⟩; have h6 := h5.trs h6))
            go_roundg (5 - 3)
            case measure => omega
            case rel => exact ⟨3, by first | rfl | go_num, by first | rfl | (simp), by omega, by omega, by omega, h6⟩
          · rw [hiv] at HO4
            clear hiv HI4 hno
            go_wp2_with (first
              | (go_at_call 27; refine (HS3.out _ HBj.out).mono ?_; rintro e w5 ⟨rfl, h5⟩; have h5 := HBj.out.trs h5; obtain ⟨f0, f1⟩ := HCE.out _ h5)
              | (go_at_call 25; refine (HO4.out _ h5).mono ?_; rintro e w6 ⟨rfl, h6⟩; have h6 := h5.trs h6))
            go_roundg (5 - 3)
            case measure => omega
            case rel => exact ⟨3, by first | rfl | go_num, by first | rfl | (simp), by omega, by omega, by omega, h6⟩
        · have HI4 := Lib.hid (H4.out)
          have HS3 := Lib.hid (fun W (hW : Below W0.heap.size W0 W) => H3.out W 3 (by omega) (by omega) hW)
          have HO4 := Lib.hid (fun W (hW : Below W0.heap.size W0 W) => H4.out W 3 hW)
          rcases HIS.out 3 (by omega) (by omega) with hiv | hiv | ⟨hiv, hno⟩
          · rw [hiv] at HO4
            clear hiv HI4
            go_wp2_with (first
              | (go_at_call 27; refine (HS3.out _ HBj.out).mono ?_; rintro e w5 ⟨rfl, h5⟩; have h5 := HBj.out.trs h5; obtain ⟨f0, f1⟩ := HCE.out _ h5)
              | (go_at_call 25; refine (HO4.out _ h5).mono ?_; rintro e w6 ⟨rfl, h6⟩; have h6 := h5.trs h6))
            go_roundg (5 - 4)
            case measure => omega
            case rel => exact ⟨4, by first | rfl | go_num, by first | rfl | (simp), by omega, by omega, by omega, h6⟩
          · rw [hiv] at HO4
            clear hiv HI4
            go_wp2_with (first
              | (go_at_call 27; refine (HS3.out _ HBj.out).mono ?_; rintro e w5 ⟨rfl, h5⟩; have h5 := HBj.out.trs h5; obtain ⟨f0, f1⟩ := HCE.out _ h5)
              | (go_at_call 25; refine (HO4.out _ h5).mono ?_; rintro e w6 ⟨rfl, h6⟩; have h6 := h5.trs h6))
            go_roundg (5 - 4)
            case measure => omega
            case rel => exact ⟨4, by first | rfl | go_num, by first | rfl | (simp), by omega, by omega, by omega, h6⟩
          · rw [hiv] at HO4
            clear hiv HI4 hno
            go_wp2_with (first
              | (go_at_call 27; refine (HS3.out _ HBj.out).mono ?_; rintro e w5 ⟨rfl, h5⟩; have h5 := HBj.out.trs h5; obtain ⟨f0, f1⟩ := HCE.out _ h5)
              | (go_at_call 25; refine (HO4.out _ h5).mono ?_; rintro e w6 ⟨rfl, h6⟩; have h6 := h5.trs h6))
            go_roundg (5 - 4)
            case measure => omega
            case rel => exact ⟨4, by first | rfl | go_num, by first | rfl | (simp), by omega, by omega, by omega, h6⟩
        · have HI4 := Lib.hid (H4.out)
          have HS3 := Lib.hid (fun W (hW : Below W0.heap.size W0 W) => H3.out W 4 (by omega) (by omega) hW)
          have HO4 := Lib.hid (fun W (hW : Below W0.heap.size W0 W) => H4.out W 4 hW)
          rcases HIS.out 4 (by omega) (by omega) with hiv | hiv | ⟨hiv, hno⟩
          · rw [hiv] at HO4
            clear hiv HI4
            go_wp2_with (first
              | (go_at_call 27; refine (HS3.out _ HBj.out).mono ?_; rintro e w5 ⟨rfl, h5⟩; have h5 := HBj.out.trs h5; obtain ⟨f0, f1⟩ := HCE.out _ h5)
              | (go_at_call 25; refine (HO4.out _ h5).mono ?_; rintro e w6 ⟨rfl, h6⟩; have h6 := h5.trs h6))
            go_roundg (5 - 5)
            case measure => omega
            case rel => exact ⟨5, by first | rfl | go_num, by first | rfl | (simp), by omega, by omega, by omega, h6⟩
          · rw [hiv] at HO4
            clear hiv HI4
            go_wp2_with (first
              | (go_at_call 27; refine (HS3.out _ HBj.out).mono ?_; rintro e w5 ⟨rfl, h5⟩; have h5 := HBj.out.trs h5; obtain ⟨f0, f1⟩ := HCE.out _ h5)
              | (go_at_call 25; refine (HO4.out _ h5).mono ?_; rintro e w6 ⟨rfl, h6⟩; have h6 := h5.trs h6))
            go_roundg (5 - 5)
            case measure => omega
            case rel => exact ⟨5, by first | rfl | go_num, by first | rfl | (simp), by omega, by omega, by omega, h6⟩
          · rw [hiv] at HO4
            clear hiv HI4 hno
            go_wp2_with (first
              | (go_at_call 27; refine (HS3.out _ HBj.out).mono ?_; rintro e w5 ⟨rfl, h5⟩; have h5 := HBj.out.trs h5; obtain ⟨f0, f1⟩ := HCE.out _ h5)
              | (go_at_call 25; refine (HO4.out _ h5).mono ?_; rintro e w6 ⟨rfl, h6⟩; have h6 := h5.trs h6))
            go_roundg (5 - 5)
            case measure => omega
            case rel => exact ⟨5, by first | rfl | go_num, by first | rfl | (simp), by omega, by omega, by omega, h6⟩
        · go_wp2_with (go_at_call 15; refine (Sane_any _).mono ?_; rintro e w10 ⟨rfl, h10⟩)
          go_ret
          exact ⟨rfl, (HB0.out.trs HBj.out).trs h10⟩

set_option maxRecDepth 100000 in
set_option maxHeartbeats 16000000 in
theorem AlertSeveral_0b (w : World) (A : Option Addr) (c : Nat) (L : List (Int × Int × Int)) (hr : RdT w w.heap.size A L) (hl : L.length ≤ 40) (hv : vldT L = true) (hmc : mac L = 0) (hlg : longB L L.length = true) (a b : Int) :
    Calls Try.prog 11 #[.slice A L.length c, .agg #[.int .i64 a, .int .i64 b]] w fun e w' => e = .returned (.bool true) ∧ Below w.heap.size w w' := by
  have hB0 := below_alloc w (.cells #[.int .i64 a, .int .i64 b] 40)
  have hbx := Box.new w 40 #[.int .i64 a, .int .i64 b]
  have HR := Lib.hid (hr.on hB0)
  have HB0 := Lib.hid hB0
  have HBX := Lib.hid hbx
  clear hB0 hbx hr
  have hd : decide ((40 : Int) < L.length) = false := by simp; omega
  have hl2 : L.length ≤ 1125899906842624 := by omega
  have HV := Lib.hid (refValid_any A c L _ HR.out hl2)
  rw [hv] at HV
  have hok := okT_of hv
  have hn1 := hok.1.1
  have hn12 := hok.1.2
  generalize hW0 : w.alloc (.cells #[.int .i64 a, .int .i64 b] 40) = W0 at *
  have H1 := Lib.hid (fun W (hW : Below W0.heap.size W0 W) => Can_any A c L W (HR.out.on hW) hl2)
  have H2 := Lib.hid (fun W (hW : Below W0.heap.size W0 W) => Machines_any A c L W (HR.out.on hW) hl2)
  have H3 := Lib.hid (fun W (k : Nat) (h1 : 1 ≤ k) (h2 : k ≤ 4) (hW : Below W0.heap.size W0 W) => (show Calls Try.prog 27 #[.slice A L.length c, .int .i64 k] W fun e w' => e = .returned (.tuple #[.bool (decide (1 ≤ mac L ∧ mac L ≤ k)), .int .i64 0]) ∧ Below W.heap.size W w' from by
    have h := Several_any A c L k W (HR.out.on hW) hl2
    rwa [SvV_ok hv (btw_iff.2 (by omega)), sevB_mac L h1 h2] at h))
  have H4 := Lib.hid (fun W (k : Nat) (hW : Below W0.heap.size W0 W) => IsOverfull_any A c L a b k W (HR.out.on hW) hl2)
  have HIS := Lib.hid (fun (k : Nat) (h1 : 1 ≤ k) (h2 : k ≤ 4) => Iso_sev (L := L) a b hv h1 h2)
  have HCE : Hid (∀ W, Below W0.heap.size W0 W → W.cell? ⟨w.heap.size, 0, none⟩ = some (.int .i64 a) ∧ W.cell? ⟨w.heap.size, 1, none⟩ = some (.int .i64 b)) := Lib.hid (fun W hW => by
    have hb := HBX.out.on hW
    exact ⟨hb.cell 0, hb.cell 1⟩)
  have e1 : MachV L = .tuple #[.int .i64 (mac L), .int .i64 (if mac L = 0 then 5 else 0)] := by unfold MachV; rw [hv]; rfl
  have e2 : decide (0 ≤ slk L) = decide (1 ≤ mac L ∧ mac L ≤ 1) := by
    have h := sevB_mac L (k := 1) (by omega) (by omega)
    rw [← sev_one hok]
    simpa using h
  rw [CanV_yes hv, e2] at H1
  rw [e1] at H2
  have HLO : Hid (mac L ≠ 0 → longB L L.length = false) := Lib.hid (fun hm => by
    cases h : longB L L.length
    · rfl
    · obtain ⟨i, h1, h2⟩ := longB_is _ h
      have h3 := sevB_mac L (k := 4) (by omega) (by omega)
      rw [decide_eq_true ⟨Nat.pos_of_ne_zero hm, mac_le L⟩] at h3
      exact absurd (sevB_iff.1 h3) (SevP.not_long hok i h1 h2))
  have HLS : Hid (∀ i, longB L (i + 1) = (longB L i || decide (tb L i - ta L i < tc L i))) := Lib.hid (fun _ => rfl)
  have HL0 : Hid (longB L 0 = false) := Lib.hid rfl
  have HOK := Lib.hid hok.2
  have hm4 := mac_le L
  have HLG := Lib.hid hlg
  clear hlg
  clear hok hv HBX e1 e2
  generalize longB L = lg at *
  have HIV : Hid (∀ k : Nat, ∃ v, IsoV L a b k = v) := Lib.hid (fun k => ⟨_, rfl⟩)
  generalize (fun k : Nat => IsoV L a b k) = iv at *
  generalize hmm : mac L = m at *
  generalize hn : L.length = n at *
  have HN := Lib.hid hn
  have HW0 := Lib.hid hW0
  clear hW0 hn
  have hmm2 : m = 0 := hmc
  clear hmm hmc
  subst hmm2
  clear hm4
  go_enter Try.func11, Try.ntmps11
  go_wp2_with (first
    | (go_at_call 14; refine (Long_any _ _ _ _).mono ?_; rintro e w' ⟨rfl, rfl⟩; rw [HW0.out])
    | (go_at_call 22; refine HV.out.mono ?_; rintro e w1 ⟨rfl, h1⟩)
    | (go_at_call 24; refine (H1.out _ h1).mono ?_; rintro e w2 ⟨rfl, h2⟩; have h2 := h1.trs h2)
    | (go_at_call 29; refine (H2.out _ h2).mono ?_; rintro e w3 ⟨rfl, h3⟩; have HB3 := Lib.hid (h2.trs h3); clear h1 h2 h3))
  go_loopg [9, 10] n (fun k x9 t wr => ∃ i : Nat, x9 = .bool (lg i) ∧ t = .int .i64 i ∧ i ≤ n ∧ n - i ≤ k ∧ Below w3.heap.size w3 wr)
  case atStart => exact ⟨0, by rw [HL0.out], rfl, by omega, by omega, Below.refl _ _⟩
  case round =>
    obtain ⟨i, rfl, rfl, hi, hk, hB⟩ := hrel
    by_cases hlt : i < n
    · obtain ⟨bb, o, rfl, hbb, c1, c2, c3⟩ := HR.out.at_ (k := i) (by rw [HN.out]; exact hlt)
      rw [← (HB3.out.trs hB).cell hbb] at c1 c2 c3
      have hoki := HOK.out i hlt
      have HLi := Lib.hid (HLS.out i)
      have HB := Lib.hid hB
      clear hB
      generalize ta L i = x at *
      generalize tb L i = y at *
      generalize tc L i = z at *
      have v1 : IntKind.i64.wrap (y - x) = y - x := IntWalk.i64_in _ (by omega)
      have v2 : wrap64 (y - x) = y - x := IntWalk.wrap64_in _ (by omega)
      have hi0 : (i : Int) < (n : Int) := by omega
      generalize lg i = g at *
      clear hoki
      cases g
      all_goals
        go_wp2
        go_quiet (fail)
        go_wp2
        go_roundg (n - (i + 1))
        case measure => omega
        case rel => exact ⟨i + 1, by rw [HLi.out]; simp, by go_num, by omega, by omega, HB.out.drewsN _⟩
    · obtain rfl : i = n := by omega
      have HB := Lib.hid (HB3.out.trs hB)
      have hlo := HLO.out
      generalize hlg2 : lg i = lo at *
      clear hB
      clear hlo
      have hlo2 := HLG.out
      first | (rw [hlg2] at hlo2) | skip
      subst hlo2
      go_wp2
      go_loopg [11, 12, 13, 14, 15, 16] 5 (fun k x11 t x13 x14 x15 x16 wi => ∃ j : Nat, t = .int .i64 j ∧ x11 = .bool (decide (2 ≤ j ∧ 1 ≤ 0 ∧ 0 ≤ j - 1)) ∧ 1 ≤ j ∧ j ≤ 5 ∧ 5 - j ≤ k ∧ Below W0.heap.size W0 wi)
      case atStart => exact ⟨1, rfl, rfl, by omega, by omega, by omega, HB.out⟩
      case round =>
        obtain ⟨j, rfl, rfl, hj1, hj5, hkj, hBj⟩ := hrel
        have HBj := Lib.hid hBj
        obtain ⟨g0, g1⟩ := HCE.out _ hBj
        clear hBj
        rcases (show j = 1 ∨ j = 2 ∨ j = 3 ∨ j = 4 ∨ j = 5 by omega) with rfl | rfl | rfl | rfl | rfl
        · have HI4 := Lib.hid (H4.out)
          have HS3 := Lib.hid (fun W (hW : Below W0.heap.size W0 W) => H3.out W 1 (by omega) (by omega) hW)
          have HO4 := Lib.hid (fun W (hW : Below W0.heap.size W0 W) => H4.out W 1 hW)
          rcases HIS.out 1 (by omega) (by omega) with hiv | hiv | ⟨hiv, hno⟩
          · rw [hiv] at HO4
            clear hiv HI4
            go_wp2_with (first
              | (go_at_call 27; refine (HS3.out _ HBj.out).mono ?_; rintro e w5 ⟨rfl, h5⟩; have h5 := HBj.out.trs h5; obtain ⟨f0, f1⟩ := HCE.out _ h5)
              | (go_at_call 25; refine (HO4.out _ h5).mono ?_; rintro e w6 ⟨rfl, h6⟩; have h6 := h5.trs h6))
            go_roundg (5 - 2)
            case measure => omega
            case rel => exact ⟨2, by first | rfl | go_num, by first | rfl | (simp), by omega, by omega, by omega, h6⟩
          · rw [hiv] at HO4
            clear hiv HI4
            go_wp2_with (first
              | (go_at_call 27; refine (HS3.out _ HBj.out).mono ?_; rintro e w5 ⟨rfl, h5⟩; have h5 := HBj.out.trs h5; obtain ⟨f0, f1⟩ := HCE.out _ h5)
              | (go_at_call 25; refine (HO4.out _ h5).mono ?_; rintro e w6 ⟨rfl, h6⟩; have h6 := h5.trs h6))
            go_roundg (5 - 2)
            case measure => omega
            case rel => exact ⟨2, by first | rfl | go_num, by first | rfl | (simp), by omega, by omega, by omega, h6⟩
          · rw [hiv] at HO4
            clear hiv HI4 hno
            go_wp2_with (first
              | (go_at_call 27; refine (HS3.out _ HBj.out).mono ?_; rintro e w5 ⟨rfl, h5⟩; have h5 := HBj.out.trs h5; obtain ⟨f0, f1⟩ := HCE.out _ h5)
              | (go_at_call 25; refine (HO4.out _ h5).mono ?_; rintro e w6 ⟨rfl, h6⟩; have h6 := h5.trs h6))
            go_roundg (5 - 2)
            case measure => omega
            case rel => exact ⟨2, by first | rfl | go_num, by first | rfl | (simp), by omega, by omega, by omega, h6⟩
        · have HI4 := Lib.hid (H4.out)
          have HS3 := Lib.hid (fun W (hW : Below W0.heap.size W0 W) => H3.out W 2 (by omega) (by omega) hW)
          have HO4 := Lib.hid (fun W (hW : Below W0.heap.size W0 W) => H4.out W 2 hW)
          rcases HIS.out 2 (by omega) (by omega) with hiv | hiv | ⟨hiv, hno⟩
          · rw [hiv] at HO4
            clear hiv HI4
            go_wp2_with (first
              | (go_at_call 27; refine (HS3.out _ HBj.out).mono ?_; rintro e w5 ⟨rfl, h5⟩; have h5 := HBj.out.trs h5; obtain ⟨f0, f1⟩ := HCE.out _ h5)
              | (go_at_call 25; refine (HO4.out _ h5).mono ?_; rintro e w6 ⟨rfl, h6⟩; have h6 := h5.trs h6))
            go_roundg (5 - 3)
            case measure => omega
            case rel => exact ⟨3, by first | rfl | go_num, by first | rfl | (simp), by omega, by omega, by omega, h6⟩
          · rw [hiv] at HO4
            clear hiv HI4
            go_wp2_with (first
              | (go_at_call 27; refine (HS3.out _ HBj.out).mono ?_; rintro e w5 ⟨rfl, h5⟩; have h5 := HBj.out.trs h5; obtain ⟨f0, f1⟩ := HCE.out _ h5)
              | (go_at_call 25; refine (HO4.out _ h5).mono ?_; rintro e w6 ⟨rfl, h6⟩; have h6 := h5.trs h6))
            go_roundg (5 - 3)
            case measure => omega
            case rel => exact ⟨3, by first | rfl | go_num, by first | rfl | (simp), by omega, by omega, by omega, h6⟩
          · rw [hiv] at HO4
            clear hiv HI4 hno
            go_wp2_with (first
              | (go_at_call 27; refine (HS3.out _ HBj.out).mono ?_; rintro e w5 ⟨rfl, h5⟩; have h5 := HBj.out.trs h5; obtain ⟨f0, f1⟩ := HCE.out _ h5)
              | (go_at_call 25; refine (HO4.out _ h5).mono ?_; rintro e w6 ⟨rfl, h6⟩; have h6 := h5.trs h6))
            go_roundg (5 - 3)
            case measure => omega
            case rel => exact ⟨3, by first | rfl | go_num, by first | rfl | (simp), by omega, by omega, by omega, h6⟩
        · have HI4 := Lib.hid (H4.out)
          have HS3 := Lib.hid (fun W (hW : Below W0.heap.size W0 W) => H3.out W 3 (by omega) (by omega) hW)
          have HO4 := Lib.hid (fun W (hW : Below W0.heap.size W0 W) => H4.out W 3 hW)
          rcases HIS.out 3 (by omega) (by omega) with hiv | hiv | ⟨hiv, hno⟩
          · rw [hiv] at HO4
            clear hiv HI4
            go_wp2_with (first
              | (go_at_call 27; refine (HS3.out _ HBj.out).mono ?_; rintro e w5 ⟨rfl, h5⟩; have h5 := HBj.out.trs h5; obtain ⟨f0, f1⟩ := HCE.out _ h5)
              | (go_at_call 25; refine (HO4.out _ h5).mono ?_; rintro e w6 ⟨rfl, h6⟩; have h6 := h5.trs h6))
            go_roundg (5 - 4)
            case measure => omega
            case rel => exact ⟨4, by first | rfl | go_num, by first | rfl | (simp), by omega, by omega, by omega, h6⟩
          · rw [hiv] at HO4
            clear hiv HI4
            go_wp2_with (first
              | (go_at_call 27; refine (HS3.out _ HBj.out).mono ?_; rintro e w5 ⟨rfl, h5⟩; have h5 := HBj.out.trs h5; obtain ⟨f0, f1⟩ := HCE.out _ h5)
              | (go_at_call 25; refine (HO4.out _ h5).mono ?_; rintro e w6 ⟨rfl, h6⟩; have h6 := h5.trs h6))
            go_roundg (5 - 4)
            case measure => omega
            case rel => exact ⟨4, by first | rfl | go_num, by first | rfl | (simp), by omega, by omega, by omega, h6⟩
          · rw [hiv] at HO4
            clear hiv HI4 hno
            go_wp2_with (first
              | (go_at_call 27; refine (HS3.out _ HBj.out).mono ?_; rintro e w5 ⟨rfl, h5⟩; have h5 := HBj.out.trs h5; obtain ⟨f0, f1⟩ := HCE.out _ h5)
              | (go_at_call 25; refine (HO4.out _ h5).mono ?_; rintro e w6 ⟨rfl, h6⟩; have h6 := h5.trs h6))
            go_roundg (5 - 4)
            case measure => omega
            case rel => exact ⟨4, by first | rfl | go_num, by first | rfl | (simp), by omega, by omega, by omega, h6⟩
        · have HI4 := Lib.hid (H4.out)
          have HS3 := Lib.hid (fun W (hW : Below W0.heap.size W0 W) => H3.out W 4 (by omega) (by omega) hW)
          have HO4 := Lib.hid (fun W (hW : Below W0.heap.size W0 W) => H4.out W 4 hW)
          rcases HIS.out 4 (by omega) (by omega) with hiv | hiv | ⟨hiv, hno⟩
          · rw [hiv] at HO4
            clear hiv HI4
            go_wp2_with (first
              | (go_at_call 27; refine (HS3.out _ HBj.out).mono ?_; rintro e w5 ⟨rfl, h5⟩; have h5 := HBj.out.trs h5; obtain ⟨f0, f1⟩ := HCE.out _ h5)
              | (go_at_call 25; refine (HO4.out _ h5).mono ?_; rintro e w6 ⟨rfl, h6⟩; have h6 := h5.trs h6))
            go_roundg (5 - 5)
            case measure => omega
            case rel => exact ⟨5, by first | rfl | go_num, by first | rfl | (simp), by omega, by omega, by omega, h6⟩
          · rw [hiv] at HO4
            clear hiv HI4
            go_wp2_with (first
              | (go_at_call 27; refine (HS3.out _ HBj.out).mono ?_; rintro e w5 ⟨rfl, h5⟩; have h5 := HBj.out.trs h5; obtain ⟨f0, f1⟩ := HCE.out _ h5)
              | (go_at_call 25; refine (HO4.out _ h5).mono ?_; rintro e w6 ⟨rfl, h6⟩; have h6 := h5.trs h6))
            go_roundg (5 - 5)
            case measure => omega
            case rel => exact ⟨5, by first | rfl | go_num, by first | rfl | (simp), by omega, by omega, by omega, h6⟩
          · rw [hiv] at HO4
            clear hiv HI4 hno
            go_wp2_with (first
              | (go_at_call 27; refine (HS3.out _ HBj.out).mono ?_; rintro e w5 ⟨rfl, h5⟩; have h5 := HBj.out.trs h5; obtain ⟨f0, f1⟩ := HCE.out _ h5)
              | (go_at_call 25; refine (HO4.out _ h5).mono ?_; rintro e w6 ⟨rfl, h6⟩; have h6 := h5.trs h6))
            go_roundg (5 - 5)
            case measure => omega
            case rel => exact ⟨5, by first | rfl | go_num, by first | rfl | (simp), by omega, by omega, by omega, h6⟩
        · go_wp2_with (go_at_call 15; refine (Sane_any _).mono ?_; rintro e w10 ⟨rfl, h10⟩)
          go_ret
          exact ⟨rfl, (HB0.out.trs HBj.out).trs h10⟩

set_option maxRecDepth 100000 in
set_option maxHeartbeats 16000000 in
theorem AlertSeveral_1 (w : World) (A : Option Addr) (c : Nat) (L : List (Int × Int × Int)) (hr : RdT w w.heap.size A L) (hl : L.length ≤ 40) (hv : vldT L = true) (hmc : mac L = 1) (a b : Int) :
    Calls Try.prog 11 #[.slice A L.length c, .agg #[.int .i64 a, .int .i64 b]] w fun e w' => e = .returned (.bool true) ∧ Below w.heap.size w w' := by
  have hB0 := below_alloc w (.cells #[.int .i64 a, .int .i64 b] 40)
  have hbx := Box.new w 40 #[.int .i64 a, .int .i64 b]
  have HR := Lib.hid (hr.on hB0)
  have HB0 := Lib.hid hB0
  have HBX := Lib.hid hbx
  clear hB0 hbx hr
  have hd : decide ((40 : Int) < L.length) = false := by simp; omega
  have hl2 : L.length ≤ 1125899906842624 := by omega
  have HV := Lib.hid (refValid_any A c L _ HR.out hl2)
  rw [hv] at HV
  have hok := okT_of hv
  have hn1 := hok.1.1
  have hn12 := hok.1.2
  generalize hW0 : w.alloc (.cells #[.int .i64 a, .int .i64 b] 40) = W0 at *
  have H1 := Lib.hid (fun W (hW : Below W0.heap.size W0 W) => Can_any A c L W (HR.out.on hW) hl2)
  have H2 := Lib.hid (fun W (hW : Below W0.heap.size W0 W) => Machines_any A c L W (HR.out.on hW) hl2)
  have H3 := Lib.hid (fun W (k : Nat) (h1 : 1 ≤ k) (h2 : k ≤ 4) (hW : Below W0.heap.size W0 W) => (show Calls Try.prog 27 #[.slice A L.length c, .int .i64 k] W fun e w' => e = .returned (.tuple #[.bool (decide (1 ≤ mac L ∧ mac L ≤ k)), .int .i64 0]) ∧ Below W.heap.size W w' from by
    have h := Several_any A c L k W (HR.out.on hW) hl2
    rwa [SvV_ok hv (btw_iff.2 (by omega)), sevB_mac L h1 h2] at h))
  have H4 := Lib.hid (fun W (k : Nat) (hW : Below W0.heap.size W0 W) => IsOverfull_any A c L a b k W (HR.out.on hW) hl2)
  have HIS := Lib.hid (fun (k : Nat) (h1 : 1 ≤ k) (h2 : k ≤ 4) => Iso_sev (L := L) a b hv h1 h2)
  have HCE : Hid (∀ W, Below W0.heap.size W0 W → W.cell? ⟨w.heap.size, 0, none⟩ = some (.int .i64 a) ∧ W.cell? ⟨w.heap.size, 1, none⟩ = some (.int .i64 b)) := Lib.hid (fun W hW => by
    have hb := HBX.out.on hW
    exact ⟨hb.cell 0, hb.cell 1⟩)
  have e1 : MachV L = .tuple #[.int .i64 (mac L), .int .i64 (if mac L = 0 then 5 else 0)] := by unfold MachV; rw [hv]; rfl
  have e2 : decide (0 ≤ slk L) = decide (1 ≤ mac L ∧ mac L ≤ 1) := by
    have h := sevB_mac L (k := 1) (by omega) (by omega)
    rw [← sev_one hok]
    simpa using h
  rw [CanV_yes hv, e2] at H1
  rw [e1] at H2
  have HLO : Hid (mac L ≠ 0 → longB L L.length = false) := Lib.hid (fun hm => by
    cases h : longB L L.length
    · rfl
    · obtain ⟨i, h1, h2⟩ := longB_is _ h
      have h3 := sevB_mac L (k := 4) (by omega) (by omega)
      rw [decide_eq_true ⟨Nat.pos_of_ne_zero hm, mac_le L⟩] at h3
      exact absurd (sevB_iff.1 h3) (SevP.not_long hok i h1 h2))
  have HLS : Hid (∀ i, longB L (i + 1) = (longB L i || decide (tb L i - ta L i < tc L i))) := Lib.hid (fun _ => rfl)
  have HL0 : Hid (longB L 0 = false) := Lib.hid rfl
  have HOK := Lib.hid hok.2
  have hm4 := mac_le L
  clear hok hv HBX e1 e2
  generalize longB L = lg at *
  have HIV : Hid (∀ k : Nat, ∃ v, IsoV L a b k = v) := Lib.hid (fun k => ⟨_, rfl⟩)
  generalize (fun k : Nat => IsoV L a b k) = iv at *
  generalize hmm : mac L = m at *
  generalize hn : L.length = n at *
  have HN := Lib.hid hn
  have HW0 := Lib.hid hW0
  clear hW0 hn
  have hmm2 : m = 1 := hmc
  clear hmm hmc
  subst hmm2
  clear hm4
  go_enter Try.func11, Try.ntmps11
  go_wp2_with (first
    | (go_at_call 14; refine (Long_any _ _ _ _).mono ?_; rintro e w' ⟨rfl, rfl⟩; rw [HW0.out])
    | (go_at_call 22; refine HV.out.mono ?_; rintro e w1 ⟨rfl, h1⟩)
    | (go_at_call 24; refine (H1.out _ h1).mono ?_; rintro e w2 ⟨rfl, h2⟩; have h2 := h1.trs h2)
    | (go_at_call 29; refine (H2.out _ h2).mono ?_; rintro e w3 ⟨rfl, h3⟩; have HB3 := Lib.hid (h2.trs h3); clear h1 h2 h3))
  go_loopg [9, 10] n (fun k x9 t wr => ∃ i : Nat, x9 = .bool (lg i) ∧ t = .int .i64 i ∧ i ≤ n ∧ n - i ≤ k ∧ Below w3.heap.size w3 wr)
  case atStart => exact ⟨0, by rw [HL0.out], rfl, by omega, by omega, Below.refl _ _⟩
  case round =>
    obtain ⟨i, rfl, rfl, hi, hk, hB⟩ := hrel
    by_cases hlt : i < n
    · obtain ⟨bb, o, rfl, hbb, c1, c2, c3⟩ := HR.out.at_ (k := i) (by rw [HN.out]; exact hlt)
      rw [← (HB3.out.trs hB).cell hbb] at c1 c2 c3
      have hoki := HOK.out i hlt
      have HLi := Lib.hid (HLS.out i)
      have HB := Lib.hid hB
      clear hB
      generalize ta L i = x at *
      generalize tb L i = y at *
      generalize tc L i = z at *
      have v1 : IntKind.i64.wrap (y - x) = y - x := IntWalk.i64_in _ (by omega)
      have v2 : wrap64 (y - x) = y - x := IntWalk.wrap64_in _ (by omega)
      have hi0 : (i : Int) < (n : Int) := by omega
      generalize lg i = g at *
      clear hoki
      cases g
      all_goals
        go_wp2
        go_quiet (fail)
        go_wp2
        go_roundg (n - (i + 1))
        case measure => omega
        case rel => exact ⟨i + 1, by rw [HLi.out]; simp, by go_num, by omega, by omega, HB.out.drewsN _⟩
    · obtain rfl : i = n := by omega
      have HB := Lib.hid (HB3.out.trs hB)
      have hlo := HLO.out
      generalize hlg : lg i = lo at *
      clear hlg hB
      have h0 := hlo (by decide)
      subst h0
      clear hlo
      go_wp2
      go_loopg [11, 12, 13, 14, 15, 16] 5 (fun k x11 t x13 x14 x15 x16 wi => ∃ j : Nat, t = .int .i64 j ∧ x11 = .bool (decide (2 ≤ j ∧ 1 ≤ 1 ∧ 1 ≤ j - 1)) ∧ 1 ≤ j ∧ j ≤ 5 ∧ 5 - j ≤ k ∧ Below W0.heap.size W0 wi)
      case atStart => exact ⟨1, rfl, rfl, by omega, by omega, by omega, HB.out⟩
      case round =>
        obtain ⟨j, rfl, rfl, hj1, hj5, hkj, hBj⟩ := hrel
        have HBj := Lib.hid hBj
        obtain ⟨g0, g1⟩ := HCE.out _ hBj
        clear hBj
        rcases (show j = 1 ∨ j = 2 ∨ j = 3 ∨ j = 4 ∨ j = 5 by omega) with rfl | rfl | rfl | rfl | rfl
        · have HI4 := Lib.hid (H4.out)
          have HS3 := Lib.hid (fun W (hW : Below W0.heap.size W0 W) => H3.out W 1 (by omega) (by omega) hW)
          have HO4 := Lib.hid (fun W (hW : Below W0.heap.size W0 W) => H4.out W 1 hW)
          rcases HIS.out 1 (by omega) (by omega) with hiv | hiv | ⟨hiv, hno⟩
          · rw [hiv] at HO4
            clear hiv HI4
            go_wp2_with (first
              | (go_at_call 27; refine (HS3.out _ HBj.out).mono ?_; rintro e w5 ⟨rfl, h5⟩; have h5 := HBj.out.trs h5; obtain ⟨f0, f1⟩ := HCE.out _ h5)
              | (go_at_call 25; refine (HO4.out _ h5).mono ?_; rintro e w6 ⟨rfl, h6⟩; have h6 := h5.trs h6))
            go_roundg (5 - 2)
            case measure => omega
            case rel => exact ⟨2, by first | rfl | go_num, by first | rfl | (simp), by omega, by omega, by omega, h6⟩
          · rw [hiv] at HO4
            clear hiv HI4
            go_wp2_with (first
              | (go_at_call 27; refine (HS3.out _ HBj.out).mono ?_; rintro e w5 ⟨rfl, h5⟩; have h5 := HBj.out.trs h5; obtain ⟨f0, f1⟩ := HCE.out _ h5)
              | (go_at_call 25; refine (HO4.out _ h5).mono ?_; rintro e w6 ⟨rfl, h6⟩; have h6 := h5.trs h6))
            go_roundg (5 - 2)
            case measure => omega
            case rel => exact ⟨2, by first | rfl | go_num, by first | rfl | (simp), by omega, by omega, by omega, h6⟩
          · exact absurd (by decide) hno
        · have HI4 := Lib.hid (H4.out)
          have HS3 := Lib.hid (fun W (hW : Below W0.heap.size W0 W) => H3.out W 2 (by omega) (by omega) hW)
          have HO4 := Lib.hid (fun W (hW : Below W0.heap.size W0 W) => H4.out W 2 hW)
          rcases HIS.out 2 (by omega) (by omega) with hiv | hiv | ⟨hiv, hno⟩
          · rw [hiv] at HO4
            clear hiv HI4
            go_wp2_with (first
              | (go_at_call 27; refine (HS3.out _ HBj.out).mono ?_; rintro e w5 ⟨rfl, h5⟩; have h5 := HBj.out.trs h5; obtain ⟨f0, f1⟩ := HCE.out _ h5)
              | (go_at_call 25; refine (HO4.out _ h5).mono ?_; rintro e w6 ⟨rfl, h6⟩; have h6 := h5.trs h6))
            go_roundg (5 - 3)
            case measure => omega
            case rel => exact ⟨3, by first | rfl | go_num, by first | rfl | (simp), by omega, by omega, by omega, h6⟩
          · rw [hiv] at HO4
            clear hiv HI4
            go_wp2_with (first
              | (go_at_call 27; refine (HS3.out _ HBj.out).mono ?_; rintro e w5 ⟨rfl, h5⟩; have h5 := HBj.out.trs h5; obtain ⟨f0, f1⟩ := HCE.out _ h5)
              | (go_at_call 25; refine (HO4.out _ h5).mono ?_; rintro e w6 ⟨rfl, h6⟩; have h6 := h5.trs h6))
            go_roundg (5 - 3)
            case measure => omega
            case rel => exact ⟨3, by first | rfl | go_num, by first | rfl | (simp), by omega, by omega, by omega, h6⟩
          · exact absurd (by decide) hno
        · have HI4 := Lib.hid (H4.out)
          have HS3 := Lib.hid (fun W (hW : Below W0.heap.size W0 W) => H3.out W 3 (by omega) (by omega) hW)
          have HO4 := Lib.hid (fun W (hW : Below W0.heap.size W0 W) => H4.out W 3 hW)
          rcases HIS.out 3 (by omega) (by omega) with hiv | hiv | ⟨hiv, hno⟩
          · rw [hiv] at HO4
            clear hiv HI4
            go_wp2_with (first
              | (go_at_call 27; refine (HS3.out _ HBj.out).mono ?_; rintro e w5 ⟨rfl, h5⟩; have h5 := HBj.out.trs h5; obtain ⟨f0, f1⟩ := HCE.out _ h5)
              | (go_at_call 25; refine (HO4.out _ h5).mono ?_; rintro e w6 ⟨rfl, h6⟩; have h6 := h5.trs h6))
            go_roundg (5 - 4)
            case measure => omega
            case rel => exact ⟨4, by first | rfl | go_num, by first | rfl | (simp), by omega, by omega, by omega, h6⟩
          · rw [hiv] at HO4
            clear hiv HI4
            go_wp2_with (first
              | (go_at_call 27; refine (HS3.out _ HBj.out).mono ?_; rintro e w5 ⟨rfl, h5⟩; have h5 := HBj.out.trs h5; obtain ⟨f0, f1⟩ := HCE.out _ h5)
              | (go_at_call 25; refine (HO4.out _ h5).mono ?_; rintro e w6 ⟨rfl, h6⟩; have h6 := h5.trs h6))
            go_roundg (5 - 4)
            case measure => omega
            case rel => exact ⟨4, by first | rfl | go_num, by first | rfl | (simp), by omega, by omega, by omega, h6⟩
          · exact absurd (by decide) hno
        · have HI4 := Lib.hid (H4.out)
          have HS3 := Lib.hid (fun W (hW : Below W0.heap.size W0 W) => H3.out W 4 (by omega) (by omega) hW)
          have HO4 := Lib.hid (fun W (hW : Below W0.heap.size W0 W) => H4.out W 4 hW)
          rcases HIS.out 4 (by omega) (by omega) with hiv | hiv | ⟨hiv, hno⟩
          · rw [hiv] at HO4
            clear hiv HI4
            go_wp2_with (first
              | (go_at_call 27; refine (HS3.out _ HBj.out).mono ?_; rintro e w5 ⟨rfl, h5⟩; have h5 := HBj.out.trs h5; obtain ⟨f0, f1⟩ := HCE.out _ h5)
              | (go_at_call 25; refine (HO4.out _ h5).mono ?_; rintro e w6 ⟨rfl, h6⟩; have h6 := h5.trs h6))
            go_roundg (5 - 5)
            case measure => omega
            case rel => exact ⟨5, by first | rfl | go_num, by first | rfl | (simp), by omega, by omega, by omega, h6⟩
          · rw [hiv] at HO4
            clear hiv HI4
            go_wp2_with (first
              | (go_at_call 27; refine (HS3.out _ HBj.out).mono ?_; rintro e w5 ⟨rfl, h5⟩; have h5 := HBj.out.trs h5; obtain ⟨f0, f1⟩ := HCE.out _ h5)
              | (go_at_call 25; refine (HO4.out _ h5).mono ?_; rintro e w6 ⟨rfl, h6⟩; have h6 := h5.trs h6))
            go_roundg (5 - 5)
            case measure => omega
            case rel => exact ⟨5, by first | rfl | go_num, by first | rfl | (simp), by omega, by omega, by omega, h6⟩
          · exact absurd (by decide) hno
        · go_wp2_with (go_at_call 15; refine (Sane_any _).mono ?_; rintro e w10 ⟨rfl, h10⟩)
          go_ret
          exact ⟨rfl, (HB0.out.trs HBj.out).trs h10⟩

set_option maxRecDepth 100000 in
set_option maxHeartbeats 16000000 in
theorem AlertSeveral_2 (w : World) (A : Option Addr) (c : Nat) (L : List (Int × Int × Int)) (hr : RdT w w.heap.size A L) (hl : L.length ≤ 40) (hv : vldT L = true) (hmc : mac L = 2) (a b : Int) :
    Calls Try.prog 11 #[.slice A L.length c, .agg #[.int .i64 a, .int .i64 b]] w fun e w' => e = .returned (.bool true) ∧ Below w.heap.size w w' := by
  have hB0 := below_alloc w (.cells #[.int .i64 a, .int .i64 b] 40)
  have hbx := Box.new w 40 #[.int .i64 a, .int .i64 b]
  have HR := Lib.hid (hr.on hB0)
  have HB0 := Lib.hid hB0
  have HBX := Lib.hid hbx
  clear hB0 hbx hr
  have hd : decide ((40 : Int) < L.length) = false := by simp; omega
  have hl2 : L.length ≤ 1125899906842624 := by omega
  have HV := Lib.hid (refValid_any A c L _ HR.out hl2)
  rw [hv] at HV
  have hok := okT_of hv
  have hn1 := hok.1.1
  have hn12 := hok.1.2
  generalize hW0 : w.alloc (.cells #[.int .i64 a, .int .i64 b] 40) = W0 at *
  have H1 := Lib.hid (fun W (hW : Below W0.heap.size W0 W) => Can_any A c L W (HR.out.on hW) hl2)
  have H2 := Lib.hid (fun W (hW : Below W0.heap.size W0 W) => Machines_any A c L W (HR.out.on hW) hl2)
  have H3 := Lib.hid (fun W (k : Nat) (h1 : 1 ≤ k) (h2 : k ≤ 4) (hW : Below W0.heap.size W0 W) => (show Calls Try.prog 27 #[.slice A L.length c, .int .i64 k] W fun e w' => e = .returned (.tuple #[.bool (decide (1 ≤ mac L ∧ mac L ≤ k)), .int .i64 0]) ∧ Below W.heap.size W w' from by
    have h := Several_any A c L k W (HR.out.on hW) hl2
    rwa [SvV_ok hv (btw_iff.2 (by omega)), sevB_mac L h1 h2] at h))
  have H4 := Lib.hid (fun W (k : Nat) (hW : Below W0.heap.size W0 W) => IsOverfull_any A c L a b k W (HR.out.on hW) hl2)
  have HIS := Lib.hid (fun (k : Nat) (h1 : 1 ≤ k) (h2 : k ≤ 4) => Iso_sev (L := L) a b hv h1 h2)
  have HCE : Hid (∀ W, Below W0.heap.size W0 W → W.cell? ⟨w.heap.size, 0, none⟩ = some (.int .i64 a) ∧ W.cell? ⟨w.heap.size, 1, none⟩ = some (.int .i64 b)) := Lib.hid (fun W hW => by
    have hb := HBX.out.on hW
    exact ⟨hb.cell 0, hb.cell 1⟩)
  have e1 : MachV L = .tuple #[.int .i64 (mac L), .int .i64 (if mac L = 0 then 5 else 0)] := by unfold MachV; rw [hv]; rfl
  have e2 : decide (0 ≤ slk L) = decide (1 ≤ mac L ∧ mac L ≤ 1) := by
    have h := sevB_mac L (k := 1) (by omega) (by omega)
    rw [← sev_one hok]
    simpa using h
  rw [CanV_yes hv, e2] at H1
  rw [e1] at H2
  have HLO : Hid (mac L ≠ 0 → longB L L.length = false) := Lib.hid (fun hm => by
    cases h : longB L L.length
    · rfl
    · obtain ⟨i, h1, h2⟩ := longB_is _ h
      have h3 := sevB_mac L (k := 4) (by omega) (by omega)
      rw [decide_eq_true ⟨Nat.pos_of_ne_zero hm, mac_le L⟩] at h3
      exact absurd (sevB_iff.1 h3) (SevP.not_long hok i h1 h2))
  have HLS : Hid (∀ i, longB L (i + 1) = (longB L i || decide (tb L i - ta L i < tc L i))) := Lib.hid (fun _ => rfl)
  have HL0 : Hid (longB L 0 = false) := Lib.hid rfl
  have HOK := Lib.hid hok.2
  have hm4 := mac_le L
  clear hok hv HBX e1 e2
  generalize longB L = lg at *
  have HIV : Hid (∀ k : Nat, ∃ v, IsoV L a b k = v) := Lib.hid (fun k => ⟨_, rfl⟩)
  generalize (fun k : Nat => IsoV L a b k) = iv at *
  generalize hmm : mac L = m at *
  generalize hn : L.length = n at *
  have HN := Lib.hid hn
  have HW0 := Lib.hid hW0
  clear hW0 hn
  have hmm2 : m = 2 := hmc
  clear hmm hmc
  subst hmm2
  clear hm4
  go_enter Try.func11, Try.ntmps11
  go_wp2_with (first
    | (go_at_call 14; refine (Long_any _ _ _ _).mono ?_; rintro e w' ⟨rfl, rfl⟩; rw [HW0.out])
    | (go_at_call 22; refine HV.out.mono ?_; rintro e w1 ⟨rfl, h1⟩)
    | (go_at_call 24; refine (H1.out _ h1).mono ?_; rintro e w2 ⟨rfl, h2⟩; have h2 := h1.trs h2)
    | (go_at_call 29; refine (H2.out _ h2).mono ?_; rintro e w3 ⟨rfl, h3⟩; have HB3 := Lib.hid (h2.trs h3); clear h1 h2 h3))
  go_loopg [9, 10] n (fun k x9 t wr => ∃ i : Nat, x9 = .bool (lg i) ∧ t = .int .i64 i ∧ i ≤ n ∧ n - i ≤ k ∧ Below w3.heap.size w3 wr)
  case atStart => exact ⟨0, by rw [HL0.out], rfl, by omega, by omega, Below.refl _ _⟩
  case round =>
    obtain ⟨i, rfl, rfl, hi, hk, hB⟩ := hrel
    by_cases hlt : i < n
    · obtain ⟨bb, o, rfl, hbb, c1, c2, c3⟩ := HR.out.at_ (k := i) (by rw [HN.out]; exact hlt)
      rw [← (HB3.out.trs hB).cell hbb] at c1 c2 c3
      have hoki := HOK.out i hlt
      have HLi := Lib.hid (HLS.out i)
      have HB := Lib.hid hB
      clear hB
      generalize ta L i = x at *
      generalize tb L i = y at *
      generalize tc L i = z at *
      have v1 : IntKind.i64.wrap (y - x) = y - x := IntWalk.i64_in _ (by omega)
      have v2 : wrap64 (y - x) = y - x := IntWalk.wrap64_in _ (by omega)
      have hi0 : (i : Int) < (n : Int) := by omega
      generalize lg i = g at *
      clear hoki
      cases g
      all_goals
        go_wp2
        go_quiet (fail)
        go_wp2
        go_roundg (n - (i + 1))
        case measure => omega
        case rel => exact ⟨i + 1, by rw [HLi.out]; simp, by go_num, by omega, by omega, HB.out.drewsN _⟩
    · obtain rfl : i = n := by omega
      have HB := Lib.hid (HB3.out.trs hB)
      have hlo := HLO.out
      generalize hlg : lg i = lo at *
      clear hlg hB
      have h0 := hlo (by decide)
      subst h0
      clear hlo
      go_wp2
      go_loopg [11, 12, 13, 14, 15, 16] 5 (fun k x11 t x13 x14 x15 x16 wi => ∃ j : Nat, t = .int .i64 j ∧ x11 = .bool (decide (2 ≤ j ∧ 1 ≤ 2 ∧ 2 ≤ j - 1)) ∧ 1 ≤ j ∧ j ≤ 5 ∧ 5 - j ≤ k ∧ Below W0.heap.size W0 wi)
      case atStart => exact ⟨1, rfl, rfl, by omega, by omega, by omega, HB.out⟩
      case round =>
        obtain ⟨j, rfl, rfl, hj1, hj5, hkj, hBj⟩ := hrel
        have HBj := Lib.hid hBj
        obtain ⟨g0, g1⟩ := HCE.out _ hBj
        clear hBj
        rcases (show j = 1 ∨ j = 2 ∨ j = 3 ∨ j = 4 ∨ j = 5 by omega) with rfl | rfl | rfl | rfl | rfl
        · have HI4 := Lib.hid (H4.out)
          have HS3 := Lib.hid (fun W (hW : Below W0.heap.size W0 W) => H3.out W 1 (by omega) (by omega) hW)
          have HO4 := Lib.hid (fun W (hW : Below W0.heap.size W0 W) => H4.out W 1 hW)
          rcases HIS.out 1 (by omega) (by omega) with hiv | hiv | ⟨hiv, hno⟩
          · rw [hiv] at HO4
            clear hiv HI4
            go_wp2_with (first
              | (go_at_call 27; refine (HS3.out _ HBj.out).mono ?_; rintro e w5 ⟨rfl, h5⟩; have h5 := HBj.out.trs h5; obtain ⟨f0, f1⟩ := HCE.out _ h5)
              | (go_at_call 25; refine (HO4.out _ h5).mono ?_; rintro e w6 ⟨rfl, h6⟩; have h6 := h5.trs h6))
            go_roundg (5 - 2)
            case measure => omega
            case rel => exact ⟨2, by first | rfl | go_num, by first | rfl | (simp), by omega, by omega, by omega, h6⟩
          · rw [hiv] at HO4
            clear hiv HI4
            go_wp2_with (first
              | (go_at_call 27; refine (HS3.out _ HBj.out).mono ?_; rintro e w5 ⟨rfl, h5⟩; have h5 := HBj.out.trs h5; obtain ⟨f0, f1⟩ := HCE.out _ h5)
              | (go_at_call 25; refine (HO4.out _ h5).mono ?_; rintro e w6 ⟨rfl, h6⟩; have h6 := h5.trs h6))
            go_roundg (5 - 2)
            case measure => omega
            case rel => exact ⟨2, by first | rfl | go_num, by first | rfl | (simp), by omega, by omega, by omega, h6⟩
          · rw [hiv] at HO4
            clear hiv HI4 hno
            go_wp2_with (first
              | (go_at_call 27; refine (HS3.out _ HBj.out).mono ?_; rintro e w5 ⟨rfl, h5⟩; have h5 := HBj.out.trs h5; obtain ⟨f0, f1⟩ := HCE.out _ h5)
              | (go_at_call 25; refine (HO4.out _ h5).mono ?_; rintro e w6 ⟨rfl, h6⟩; have h6 := h5.trs h6))
            go_roundg (5 - 2)
            case measure => omega
            case rel => exact ⟨2, by first | rfl | go_num, by first | rfl | (simp), by omega, by omega, by omega, h6⟩
        · have HI4 := Lib.hid (H4.out)
          have HS3 := Lib.hid (fun W (hW : Below W0.heap.size W0 W) => H3.out W 2 (by omega) (by omega) hW)
          have HO4 := Lib.hid (fun W (hW : Below W0.heap.size W0 W) => H4.out W 2 hW)
          rcases HIS.out 2 (by omega) (by omega) with hiv | hiv | ⟨hiv, hno⟩
          · rw [hiv] at HO4
            clear hiv HI4
            go_wp2_with (first
              | (go_at_call 27; refine (HS3.out _ HBj.out).mono ?_; rintro e w5 ⟨rfl, h5⟩; have h5 := HBj.out.trs h5; obtain ⟨f0, f1⟩ := HCE.out _ h5)
              | (go_at_call 25; refine (HO4.out _ h5).mono ?_; rintro e w6 ⟨rfl, h6⟩; have h6 := h5.trs h6))
            go_roundg (5 - 3)
            case measure => omega
            case rel => exact ⟨3, by first | rfl | go_num, by first | rfl | (simp), by omega, by omega, by omega, h6⟩
          · rw [hiv] at HO4
            clear hiv HI4
            go_wp2_with (first
              | (go_at_call 27; refine (HS3.out _ HBj.out).mono ?_; rintro e w5 ⟨rfl, h5⟩; have h5 := HBj.out.trs h5; obtain ⟨f0, f1⟩ := HCE.out _ h5)
              | (go_at_call 25; refine (HO4.out _ h5).mono ?_; rintro e w6 ⟨rfl, h6⟩; have h6 := h5.trs h6))
            go_roundg (5 - 3)
            case measure => omega
            case rel => exact ⟨3, by first | rfl | go_num, by first | rfl | (simp), by omega, by omega, by omega, h6⟩
          · exact absurd (by decide) hno
        · have HI4 := Lib.hid (H4.out)
          have HS3 := Lib.hid (fun W (hW : Below W0.heap.size W0 W) => H3.out W 3 (by omega) (by omega) hW)
          have HO4 := Lib.hid (fun W (hW : Below W0.heap.size W0 W) => H4.out W 3 hW)
          rcases HIS.out 3 (by omega) (by omega) with hiv | hiv | ⟨hiv, hno⟩
          · rw [hiv] at HO4
            clear hiv HI4
            go_wp2_with (first
              | (go_at_call 27; refine (HS3.out _ HBj.out).mono ?_; rintro e w5 ⟨rfl, h5⟩; have h5 := HBj.out.trs h5; obtain ⟨f0, f1⟩ := HCE.out _ h5)
              | (go_at_call 25; refine (HO4.out _ h5).mono ?_; rintro e w6 ⟨rfl, h6⟩; have h6 := h5.trs h6))
            go_roundg (5 - 4)
            case measure => omega
            case rel => exact ⟨4, by first | rfl | go_num, by first | rfl | (simp), by omega, by omega, by omega, h6⟩
          · rw [hiv] at HO4
            clear hiv HI4
            go_wp2_with (first
              | (go_at_call 27; refine (HS3.out _ HBj.out).mono ?_; rintro e w5 ⟨rfl, h5⟩; have h5 := HBj.out.trs h5; obtain ⟨f0, f1⟩ := HCE.out _ h5)
              | (go_at_call 25; refine (HO4.out _ h5).mono ?_; rintro e w6 ⟨rfl, h6⟩; have h6 := h5.trs h6))
            go_roundg (5 - 4)
            case measure => omega
            case rel => exact ⟨4, by first | rfl | go_num, by first | rfl | (simp), by omega, by omega, by omega, h6⟩
          · exact absurd (by decide) hno
        · have HI4 := Lib.hid (H4.out)
          have HS3 := Lib.hid (fun W (hW : Below W0.heap.size W0 W) => H3.out W 4 (by omega) (by omega) hW)
          have HO4 := Lib.hid (fun W (hW : Below W0.heap.size W0 W) => H4.out W 4 hW)
          rcases HIS.out 4 (by omega) (by omega) with hiv | hiv | ⟨hiv, hno⟩
          · rw [hiv] at HO4
            clear hiv HI4
            go_wp2_with (first
              | (go_at_call 27; refine (HS3.out _ HBj.out).mono ?_; rintro e w5 ⟨rfl, h5⟩; have h5 := HBj.out.trs h5; obtain ⟨f0, f1⟩ := HCE.out _ h5)
              | (go_at_call 25; refine (HO4.out _ h5).mono ?_; rintro e w6 ⟨rfl, h6⟩; have h6 := h5.trs h6))
            go_roundg (5 - 5)
            case measure => omega
            case rel => exact ⟨5, by first | rfl | go_num, by first | rfl | (simp), by omega, by omega, by omega, h6⟩
          · rw [hiv] at HO4
            clear hiv HI4
            go_wp2_with (first
              | (go_at_call 27; refine (HS3.out _ HBj.out).mono ?_; rintro e w5 ⟨rfl, h5⟩; have h5 := HBj.out.trs h5; obtain ⟨f0, f1⟩ := HCE.out _ h5)
              | (go_at_call 25; refine (HO4.out _ h5).mono ?_; rintro e w6 ⟨rfl, h6⟩; have h6 := h5.trs h6))
            go_roundg (5 - 5)
            case measure => omega
            case rel => exact ⟨5, by first | rfl | go_num, by first | rfl | (simp), by omega, by omega, by omega, h6⟩
          · exact absurd (by decide) hno
        · go_wp2_with (go_at_call 15; refine (Sane_any _).mono ?_; rintro e w10 ⟨rfl, h10⟩)
          go_ret
          exact ⟨rfl, (HB0.out.trs HBj.out).trs h10⟩

set_option maxRecDepth 100000 in
set_option maxHeartbeats 16000000 in
theorem AlertSeveral_3 (w : World) (A : Option Addr) (c : Nat) (L : List (Int × Int × Int)) (hr : RdT w w.heap.size A L) (hl : L.length ≤ 40) (hv : vldT L = true) (hmc : mac L = 3) (a b : Int) :
    Calls Try.prog 11 #[.slice A L.length c, .agg #[.int .i64 a, .int .i64 b]] w fun e w' => e = .returned (.bool true) ∧ Below w.heap.size w w' := by
  have hB0 := below_alloc w (.cells #[.int .i64 a, .int .i64 b] 40)
  have hbx := Box.new w 40 #[.int .i64 a, .int .i64 b]
  have HR := Lib.hid (hr.on hB0)
  have HB0 := Lib.hid hB0
  have HBX := Lib.hid hbx
  clear hB0 hbx hr
  have hd : decide ((40 : Int) < L.length) = false := by simp; omega
  have hl2 : L.length ≤ 1125899906842624 := by omega
  have HV := Lib.hid (refValid_any A c L _ HR.out hl2)
  rw [hv] at HV
  have hok := okT_of hv
  have hn1 := hok.1.1
  have hn12 := hok.1.2
  generalize hW0 : w.alloc (.cells #[.int .i64 a, .int .i64 b] 40) = W0 at *
  have H1 := Lib.hid (fun W (hW : Below W0.heap.size W0 W) => Can_any A c L W (HR.out.on hW) hl2)
  have H2 := Lib.hid (fun W (hW : Below W0.heap.size W0 W) => Machines_any A c L W (HR.out.on hW) hl2)
  have H3 := Lib.hid (fun W (k : Nat) (h1 : 1 ≤ k) (h2 : k ≤ 4) (hW : Below W0.heap.size W0 W) => (show Calls Try.prog 27 #[.slice A L.length c, .int .i64 k] W fun e w' => e = .returned (.tuple #[.bool (decide (1 ≤ mac L ∧ mac L ≤ k)), .int .i64 0]) ∧ Below W.heap.size W w' from by
    have h := Several_any A c L k W (HR.out.on hW) hl2
    rwa [SvV_ok hv (btw_iff.2 (by omega)), sevB_mac L h1 h2] at h))
  have H4 := Lib.hid (fun W (k : Nat) (hW : Below W0.heap.size W0 W) => IsOverfull_any A c L a b k W (HR.out.on hW) hl2)
  have HIS := Lib.hid (fun (k : Nat) (h1 : 1 ≤ k) (h2 : k ≤ 4) => Iso_sev (L := L) a b hv h1 h2)
  have HCE : Hid (∀ W, Below W0.heap.size W0 W → W.cell? ⟨w.heap.size, 0, none⟩ = some (.int .i64 a) ∧ W.cell? ⟨w.heap.size, 1, none⟩ = some (.int .i64 b)) := Lib.hid (fun W hW => by
    have hb := HBX.out.on hW
    exact ⟨hb.cell 0, hb.cell 1⟩)
  have e1 : MachV L = .tuple #[.int .i64 (mac L), .int .i64 (if mac L = 0 then 5 else 0)] := by unfold MachV; rw [hv]; rfl
  have e2 : decide (0 ≤ slk L) = decide (1 ≤ mac L ∧ mac L ≤ 1) := by
    have h := sevB_mac L (k := 1) (by omega) (by omega)
    rw [← sev_one hok]
    simpa using h
  rw [CanV_yes hv, e2] at H1
  rw [e1] at H2
  have HLO : Hid (mac L ≠ 0 → longB L L.length = false) := Lib.hid (fun hm => by
    cases h : longB L L.length
    · rfl
    · obtain ⟨i, h1, h2⟩ := longB_is _ h
      have h3 := sevB_mac L (k := 4) (by omega) (by omega)
      rw [decide_eq_true ⟨Nat.pos_of_ne_zero hm, mac_le L⟩] at h3
      exact absurd (sevB_iff.1 h3) (SevP.not_long hok i h1 h2))
  have HLS : Hid (∀ i, longB L (i + 1) = (longB L i || decide (tb L i - ta L i < tc L i))) := Lib.hid (fun _ => rfl)
  have HL0 : Hid (longB L 0 = false) := Lib.hid rfl
  have HOK := Lib.hid hok.2
  have hm4 := mac_le L
  clear hok hv HBX e1 e2
  generalize longB L = lg at *
  have HIV : Hid (∀ k : Nat, ∃ v, IsoV L a b k = v) := Lib.hid (fun k => ⟨_, rfl⟩)
  generalize (fun k : Nat => IsoV L a b k) = iv at *
  generalize hmm : mac L = m at *
  generalize hn : L.length = n at *
  have HN := Lib.hid hn
  have HW0 := Lib.hid hW0
  clear hW0 hn
  have hmm2 : m = 3 := hmc
  clear hmm hmc
  subst hmm2
  clear hm4
  go_enter Try.func11, Try.ntmps11
  go_wp2_with (first
    | (go_at_call 14; refine (Long_any _ _ _ _).mono ?_; rintro e w' ⟨rfl, rfl⟩; rw [HW0.out])
    | (go_at_call 22; refine HV.out.mono ?_; rintro e w1 ⟨rfl, h1⟩)
    | (go_at_call 24; refine (H1.out _ h1).mono ?_; rintro e w2 ⟨rfl, h2⟩; have h2 := h1.trs h2)
    | (go_at_call 29; refine (H2.out _ h2).mono ?_; rintro e w3 ⟨rfl, h3⟩; have HB3 := Lib.hid (h2.trs h3); clear h1 h2 h3))
  go_loopg [9, 10] n (fun k x9 t wr => ∃ i : Nat, x9 = .bool (lg i) ∧ t = .int .i64 i ∧ i ≤ n ∧ n - i ≤ k ∧ Below w3.heap.size w3 wr)
  case atStart => exact ⟨0, by rw [HL0.out], rfl, by omega, by omega, Below.refl _ _⟩
  case round =>
    obtain ⟨i, rfl, rfl, hi, hk, hB⟩ := hrel
    by_cases hlt : i < n
    · obtain ⟨bb, o, rfl, hbb, c1, c2, c3⟩ := HR.out.at_ (k := i) (by rw [HN.out]; exact hlt)
      rw [← (HB3.out.trs hB).cell hbb] at c1 c2 c3
      have hoki := HOK.out i hlt
      have HLi := Lib.hid (HLS.out i)
      have HB := Lib.hid hB
      clear hB
      generalize ta L i = x at *
      generalize tb L i = y at *
      generalize tc L i = z at *
      have v1 : IntKind.i64.wrap (y - x) = y - x := IntWalk.i64_in _ (by omega)
      have v2 : wrap64 (y - x) = y - x := IntWalk.wrap64_in _ (by omega)
      have hi0 : (i : Int) < (n : Int) := by omega
      generalize lg i = g at *
      clear hoki
      cases g
      all_goals
        go_wp2
        go_quiet (fail)
        go_wp2
        go_roundg (n - (i + 1))
        case measure => omega
        case rel => exact ⟨i + 1, by rw [HLi.out]; simp, by go_num, by omega, by omega, HB.out.drewsN _⟩
    · obtain rfl : i = n := by omega
      have HB := Lib.hid (HB3.out.trs hB)
      have hlo := HLO.out
      generalize hlg : lg i = lo at *
      clear hlg hB
      have h0 := hlo (by decide)
      subst h0
      clear hlo
      go_wp2
      go_loopg [11, 12, 13, 14, 15, 16] 5 (fun k x11 t x13 x14 x15 x16 wi => ∃ j : Nat, t = .int .i64 j ∧ x11 = .bool (decide (2 ≤ j ∧ 1 ≤ 3 ∧ 3 ≤ j - 1)) ∧ 1 ≤ j ∧ j ≤ 5 ∧ 5 - j ≤ k ∧ Below W0.heap.size W0 wi)
      case atStart => exact ⟨1, rfl, rfl, by omega, by omega, by omega, HB.out⟩
      case round =>
        obtain ⟨j, rfl, rfl, hj1, hj5, hkj, hBj⟩ := hrel
        have HBj := Lib.hid hBj
        obtain ⟨g0, g1⟩ := HCE.out _ hBj
        clear hBj
        rcases (show j = 1 ∨ j = 2 ∨ j = 3 ∨ j = 4 ∨ j = 5 by omega) with rfl | rfl | rfl | rfl | rfl
        · have HI4 := Lib.hid (H4.out)
          have HS3 := Lib.hid (fun W (hW : Below W0.heap.size W0 W) => H3.out W 1 (by omega) (by omega) hW)
          have HO4 := Lib.hid (fun W (hW : Below W0.heap.size W0 W) => H4.out W 1 hW)
          rcases HIS.out 1 (by omega) (by omega) with hiv | hiv | ⟨hiv, hno⟩
          · rw [hiv] at HO4
            clear hiv HI4
            go_wp2_with (first
              | (go_at_call 27; refine (HS3.out _ HBj.out).mono ?_; rintro e w5 ⟨rfl, h5⟩; have h5 := HBj.out.trs h5; obtain ⟨f0, f1⟩ := HCE.out _ h5)
              | (go_at_call 25; refine (HO4.out _ h5).mono ?_; rintro e w6 ⟨rfl, h6⟩; have h6 := h5.trs h6))
            go_roundg (5 - 2)
            case measure => omega
            case rel => exact ⟨2, by first | rfl | go_num, by first | rfl | (simp), by omega, by omega, by omega, h6⟩
          · rw [hiv] at HO4
            clear hiv HI4
            go_wp2_with (first
              | (go_at_call 27; refine (HS3.out _ HBj.out).mono ?_; rintro e w5 ⟨rfl, h5⟩; have h5 := HBj.out.trs h5; obtain ⟨f0, f1⟩ := HCE.out _ h5)
              | (go_at_call 25; refine (HO4.out _ h5).mono ?_; rintro e w6 ⟨rfl, h6⟩; have h6 := h5.trs h6))
            go_roundg (5 - 2)
            case measure => omega
            case rel => exact ⟨2, by first | rfl | go_num, by first | rfl | (simp), by omega, by omega, by omega, h6⟩
          · rw [hiv] at HO4
            clear hiv HI4 hno
            go_wp2_with (first
              | (go_at_call 27; refine (HS3.out _ HBj.out).mono ?_; rintro e w5 ⟨rfl, h5⟩; have h5 := HBj.out.trs h5; obtain ⟨f0, f1⟩ := HCE.out _ h5)
              | (go_at_call 25; refine (HO4.out _ h5).mono ?_; rintro e w6 ⟨rfl, h6⟩; have h6 := h5.trs h6))
            go_roundg (5 - 2)
            case measure => omega
            case rel => exact ⟨2, by first | rfl | go_num, by first | rfl | (simp), by omega, by omega, by omega, h6⟩
        · have HI4 := Lib.hid (H4.out)
          have HS3 := Lib.hid (fun W (hW : Below W0.heap.size W0 W) => H3.out W 2 (by omega) (by omega) hW)
          have HO4 := Lib.hid (fun W (hW : Below W0.heap.size W0 W) => H4.out W 2 hW)
          rcases HIS.out 2 (by omega) (by omega) with hiv | hiv | ⟨hiv, hno⟩
          · rw [hiv] at HO4
            clear hiv HI4
            go_wp2_with (first
              | (go_at_call 27; refine (HS3.out _ HBj.out).mono ?_; rintro e w5 ⟨rfl, h5⟩; have h5 := HBj.out.trs h5; obtain ⟨f0, f1⟩ := HCE.out _ h5)
              | (go_at_call 25; refine (HO4.out _ h5).mono ?_; rintro e w6 ⟨rfl, h6⟩; have h6 := h5.trs h6))
            go_roundg (5 - 3)
            case measure => omega
            case rel => exact ⟨3, by first | rfl | go_num, by first | rfl | (simp), by omega, by omega, by omega, h6⟩
          · rw [hiv] at HO4
            clear hiv HI4
            go_wp2_with (first
              | (go_at_call 27; refine (HS3.out _ HBj.out).mono ?_; rintro e w5 ⟨rfl, h5⟩; have h5 := HBj.out.trs h5; obtain ⟨f0, f1⟩ := HCE.out _ h5)
              | (go_at_call 25; refine (HO4.out _ h5).mono ?_; rintro e w6 ⟨rfl, h6⟩; have h6 := h5.trs h6))
            go_roundg (5 - 3)
            case measure => omega
            case rel => exact ⟨3, by first | rfl | go_num, by first | rfl | (simp), by omega, by omega, by omega, h6⟩
          · rw [hiv] at HO4
            clear hiv HI4 hno
            go_wp2_with (first
              | (go_at_call 27; refine (HS3.out _ HBj.out).mono ?_; rintro e w5 ⟨rfl, h5⟩; have h5 := HBj.out.trs h5; obtain ⟨f0, f1⟩ := HCE.out _ h5)
              | (go_at_call 25; refine (HO4.out _ h5).mono ?_; rintro e w6 ⟨rfl, h6⟩; have h6 := h5.trs h6))
            go_roundg (5 - 3)
            case measure => omega
            case rel => exact ⟨3, by first | rfl | go_num, by first | rfl | (simp), by omega, by omega, by omega, h6⟩
        · have HI4 := Lib.hid (H4.out)
          have HS3 := Lib.hid (fun W (hW : Below W0.heap.size W0 W) => H3.out W 3 (by omega) (by omega) hW)
          have HO4 := Lib.hid (fun W (hW : Below W0.heap.size W0 W) => H4.out W 3 hW)
          rcases HIS.out 3 (by omega) (by omega) with hiv | hiv | ⟨hiv, hno⟩
          · rw [hiv] at HO4
            clear hiv HI4
            go_wp2_with (first
              | (go_at_call 27; refine (HS3.out _ HBj.out).mono ?_; rintro e w5 ⟨rfl, h5⟩; have h5 := HBj.out.trs h5; obtain ⟨f0, f1⟩ := HCE.out _ h5)
              | (go_at_call 25; refine (HO4.out _ h5).mono ?_; rintro e w6 ⟨rfl, h6⟩; have h6 := h5.trs h6))
            go_roundg (5 - 4)
            case measure => omega
            case rel => exact ⟨4, by first | rfl | go_num, by first | rfl | (simp), by omega, by omega, by omega, h6⟩
          · rw [hiv] at HO4
            clear hiv HI4
            go_wp2_with (first
              | (go_at_call 27; refine (HS3.out _ HBj.out).mono ?_; rintro e w5 ⟨rfl, h5⟩; have h5 := HBj.out.trs h5; obtain ⟨f0, f1⟩ := HCE.out _ h5)
              | (go_at_call 25; refine (HO4.out _ h5).mono ?_; rintro e w6 ⟨rfl, h6⟩; have h6 := h5.trs h6))
            go_roundg (5 - 4)
            case measure => omega
            case rel => exact ⟨4, by first | rfl | go_num, by first | rfl | (simp), by omega, by omega, by omega, h6⟩
          · exact absurd (by decide) hno
        · have HI4 := Lib.hid (H4.out)
          have HS3 := Lib.hid (fun W (hW : Below W0.heap.size W0 W) => H3.out W 4 (by omega) (by omega) hW)
          have HO4 := Lib.hid (fun W (hW : Below W0.heap.size W0 W) => H4.out W 4 hW)
          rcases HIS.out 4 (by omega) (by omega) with hiv | hiv | ⟨hiv, hno⟩
          · rw [hiv] at HO4
            clear hiv HI4
            go_wp2_with (first
              | (go_at_call 27; refine (HS3.out _ HBj.out).mono ?_; rintro e w5 ⟨rfl, h5⟩; have h5 := HBj.out.trs h5; obtain ⟨f0, f1⟩ := HCE.out _ h5)
              | (go_at_call 25; refine (HO4.out _ h5).mono ?_; rintro e w6 ⟨rfl, h6⟩; have h6 := h5.trs h6))
            go_roundg (5 - 5)
            case measure => omega
            case rel => exact ⟨5, by first | rfl | go_num, by first | rfl | (simp), by omega, by omega, by omega, h6⟩
          · rw [hiv] at HO4
            clear hiv HI4
            go_wp2_with (first
              | (go_at_call 27; refine (HS3.out _ HBj.out).mono ?_; rintro e w5 ⟨rfl, h5⟩; have h5 := HBj.out.trs h5; obtain ⟨f0, f1⟩ := HCE.out _ h5)
              | (go_at_call 25; refine (HO4.out _ h5).mono ?_; rintro e w6 ⟨rfl, h6⟩; have h6 := h5.trs h6))
            go_roundg (5 - 5)
            case measure => omega
            case rel => exact ⟨5, by first | rfl | go_num, by first | rfl | (simp), by omega, by omega, by omega, h6⟩
          · exact absurd (by decide) hno
        · go_wp2_with (go_at_call 15; refine (Sane_any _).mono ?_; rintro e w10 ⟨rfl, h10⟩)
          go_ret
          exact ⟨rfl, (HB0.out.trs HBj.out).trs h10⟩

set_option maxRecDepth 100000 in
set_option maxHeartbeats 16000000 in
theorem AlertSeveral_4 (w : World) (A : Option Addr) (c : Nat) (L : List (Int × Int × Int)) (hr : RdT w w.heap.size A L) (hl : L.length ≤ 40) (hv : vldT L = true) (hmc : mac L = 4) (a b : Int) :
    Calls Try.prog 11 #[.slice A L.length c, .agg #[.int .i64 a, .int .i64 b]] w fun e w' => e = .returned (.bool true) ∧ Below w.heap.size w w' := by
  have hB0 := below_alloc w (.cells #[.int .i64 a, .int .i64 b] 40)
  have hbx := Box.new w 40 #[.int .i64 a, .int .i64 b]
  have HR := Lib.hid (hr.on hB0)
  have HB0 := Lib.hid hB0
  have HBX := Lib.hid hbx
  clear hB0 hbx hr
  have hd : decide ((40 : Int) < L.length) = false := by simp; omega
  have hl2 : L.length ≤ 1125899906842624 := by omega
  have HV := Lib.hid (refValid_any A c L _ HR.out hl2)
  rw [hv] at HV
  have hok := okT_of hv
  have hn1 := hok.1.1
  have hn12 := hok.1.2
  generalize hW0 : w.alloc (.cells #[.int .i64 a, .int .i64 b] 40) = W0 at *
  have H1 := Lib.hid (fun W (hW : Below W0.heap.size W0 W) => Can_any A c L W (HR.out.on hW) hl2)
  have H2 := Lib.hid (fun W (hW : Below W0.heap.size W0 W) => Machines_any A c L W (HR.out.on hW) hl2)
  have H3 := Lib.hid (fun W (k : Nat) (h1 : 1 ≤ k) (h2 : k ≤ 4) (hW : Below W0.heap.size W0 W) => (show Calls Try.prog 27 #[.slice A L.length c, .int .i64 k] W fun e w' => e = .returned (.tuple #[.bool (decide (1 ≤ mac L ∧ mac L ≤ k)), .int .i64 0]) ∧ Below W.heap.size W w' from by
    have h := Several_any A c L k W (HR.out.on hW) hl2
    rwa [SvV_ok hv (btw_iff.2 (by omega)), sevB_mac L h1 h2] at h))
  have H4 := Lib.hid (fun W (k : Nat) (hW : Below W0.heap.size W0 W) => IsOverfull_any A c L a b k W (HR.out.on hW) hl2)
  have HIS := Lib.hid (fun (k : Nat) (h1 : 1 ≤ k) (h2 : k ≤ 4) => Iso_sev (L := L) a b hv h1 h2)
  have HCE : Hid (∀ W, Below W0.heap.size W0 W → W.cell? ⟨w.heap.size, 0, none⟩ = some (.int .i64 a) ∧ W.cell? ⟨w.heap.size, 1, none⟩ = some (.int .i64 b)) := Lib.hid (fun W hW => by
    have hb := HBX.out.on hW
    exact ⟨hb.cell 0, hb.cell 1⟩)
  have e1 : MachV L = .tuple #[.int .i64 (mac L), .int .i64 (if mac L = 0 then 5 else 0)] := by unfold MachV; rw [hv]; rfl
  have e2 : decide (0 ≤ slk L) = decide (1 ≤ mac L ∧ mac L ≤ 1) := by
    have h := sevB_mac L (k := 1) (by omega) (by omega)
    rw [← sev_one hok]
    simpa using h
  rw [CanV_yes hv, e2] at H1
  rw [e1] at H2
  have HLO : Hid (mac L ≠ 0 → longB L L.length = false) := Lib.hid (fun hm => by
    cases h : longB L L.length
    · rfl
    · obtain ⟨i, h1, h2⟩ := longB_is _ h
      have h3 := sevB_mac L (k := 4) (by omega) (by omega)
      rw [decide_eq_true ⟨Nat.pos_of_ne_zero hm, mac_le L⟩] at h3
      exact absurd (sevB_iff.1 h3) (SevP.not_long hok i h1 h2))
  have HLS : Hid (∀ i, longB L (i + 1) = (longB L i || decide (tb L i - ta L i < tc L i))) := Lib.hid (fun _ => rfl)
  have HL0 : Hid (longB L 0 = false) := Lib.hid rfl
  have HOK := Lib.hid hok.2
  have hm4 := mac_le L
  clear hok hv HBX e1 e2
  generalize longB L = lg at *
  have HIV : Hid (∀ k : Nat, ∃ v, IsoV L a b k = v) := Lib.hid (fun k => ⟨_, rfl⟩)
  generalize (fun k : Nat => IsoV L a b k) = iv at *
  generalize hmm : mac L = m at *
  generalize hn : L.length = n at *
  have HN := Lib.hid hn
  have HW0 := Lib.hid hW0
  clear hW0 hn
  have hmm2 : m = 4 := hmc
  clear hmm hmc
  subst hmm2
  clear hm4
  go_enter Try.func11, Try.ntmps11
  go_wp2_with (first
    | (go_at_call 14; refine (Long_any _ _ _ _).mono ?_; rintro e w' ⟨rfl, rfl⟩; rw [HW0.out])
    | (go_at_call 22; refine HV.out.mono ?_; rintro e w1 ⟨rfl, h1⟩)
    | (go_at_call 24; refine (H1.out _ h1).mono ?_; rintro e w2 ⟨rfl, h2⟩; have h2 := h1.trs h2)
    | (go_at_call 29; refine (H2.out _ h2).mono ?_; rintro e w3 ⟨rfl, h3⟩; have HB3 := Lib.hid (h2.trs h3); clear h1 h2 h3))
  go_loopg [9, 10] n (fun k x9 t wr => ∃ i : Nat, x9 = .bool (lg i) ∧ t = .int .i64 i ∧ i ≤ n ∧ n - i ≤ k ∧ Below w3.heap.size w3 wr)
  case atStart => exact ⟨0, by rw [HL0.out], rfl, by omega, by omega, Below.refl _ _⟩
  case round =>
    obtain ⟨i, rfl, rfl, hi, hk, hB⟩ := hrel
    by_cases hlt : i < n
    · obtain ⟨bb, o, rfl, hbb, c1, c2, c3⟩ := HR.out.at_ (k := i) (by rw [HN.out]; exact hlt)
      rw [← (HB3.out.trs hB).cell hbb] at c1 c2 c3
      have hoki := HOK.out i hlt
      have HLi := Lib.hid (HLS.out i)
      have HB := Lib.hid hB
      clear hB
      generalize ta L i = x at *
      generalize tb L i = y at *
      generalize tc L i = z at *
      have v1 : IntKind.i64.wrap (y - x) = y - x := IntWalk.i64_in _ (by omega)
      have v2 : wrap64 (y - x) = y - x := IntWalk.wrap64_in _ (by omega)
      have hi0 : (i : Int) < (n : Int) := by omega
      generalize lg i = g at *
      clear hoki
      cases g
      all_goals
        go_wp2
        go_quiet (fail)
        go_wp2
        go_roundg (n - (i + 1))
        case measure => omega
        case rel => exact ⟨i + 1, by rw [HLi.out]; simp, by go_num, by omega, by omega, HB.out.drewsN _⟩
    · obtain rfl : i = n := by omega
      have HB := Lib.hid (HB3.out.trs hB)
      have hlo := HLO.out
      generalize hlg : lg i = lo at *
      clear hlg hB
      have h0 := hlo (by decide)
      subst h0
      clear hlo
      go_wp2
      go_loopg [11, 12, 13, 14, 15, 16] 5 (fun k x11 t x13 x14 x15 x16 wi => ∃ j : Nat, t = .int .i64 j ∧ x11 = .bool (decide (2 ≤ j ∧ 1 ≤ 4 ∧ 4 ≤ j - 1)) ∧ 1 ≤ j ∧ j ≤ 5 ∧ 5 - j ≤ k ∧ Below W0.heap.size W0 wi)
      case atStart => exact ⟨1, rfl, rfl, by omega, by omega, by omega, HB.out⟩
      case round =>
        obtain ⟨j, rfl, rfl, hj1, hj5, hkj, hBj⟩ := hrel
        have HBj := Lib.hid hBj
        obtain ⟨g0, g1⟩ := HCE.out _ hBj
        clear hBj
        rcases (show j = 1 ∨ j = 2 ∨ j = 3 ∨ j = 4 ∨ j = 5 by omega) with rfl | rfl | rfl | rfl | rfl
        · have HI4 := Lib.hid (H4.out)
          have HS3 := Lib.hid (fun W (hW : Below W0.heap.size W0 W) => H3.out W 1 (by omega) (by omega) hW)
          have HO4 := Lib.hid (fun W (hW : Below W0.heap.size W0 W) => H4.out W 1 hW)
          rcases HIS.out 1 (by omega) (by omega) with hiv | hiv | ⟨hiv, hno⟩
          · rw [hiv] at HO4
            clear hiv HI4
            go_wp2_with (first
              | (go_at_call 27; refine (HS3.out _ HBj.out).mono ?_; rintro e w5 ⟨rfl, h5⟩; have h5 := HBj.out.trs h5; obtain ⟨f0, f1⟩ := HCE.out _ h5)
              | (go_at_call 25; refine (HO4.out _ h5).mono ?_; rintro e w6 ⟨rfl, h6⟩; have h6 := h5.trs h6))
            go_roundg (5 - 2)
            case measure => omega
            case rel => exact ⟨2, by first | rfl | go_num, by first | rfl | (simp), by omega, by omega, by omega, h6⟩
          · rw [hiv] at HO4
            clear hiv HI4
            go_wp2_with (first
              | (go_at_call 27; refine (HS3.out _ HBj.out).mono ?_; rintro e w5 ⟨rfl, h5⟩; have h5 := HBj.out.trs h5; obtain ⟨f0, f1⟩ := HCE.out _ h5)
              | (go_at_call 25; refine (HO4.out _ h5).mono ?_; rintro e w6 ⟨rfl, h6⟩; have h6 := h5.trs h6))
            go_roundg (5 - 2)
            case measure => omega
            case rel => exact ⟨2, by first | rfl | go_num, by first | rfl | (simp), by omega, by omega, by omega, h6⟩
          · rw [hiv] at HO4
            clear hiv HI4 hno
            go_wp2_with (first
              | (go_at_call 27; refine (HS3.out _ HBj.out).mono ?_; rintro e w5 ⟨rfl, h5⟩; have h5 := HBj.out.trs h5; obtain ⟨f0, f1⟩ := HCE.out _ h5)
              | (go_at_call 25; refine (HO4.out _ h5).mono ?_; rintro e w6 ⟨rfl, h6⟩; have h6 := h5.trs h6))
            go_roundg (5 - 2)
            case measure => omega
            case rel => exact ⟨2, by first | rfl | go_num, by first | rfl | (simp), by omega, by omega, by omega, h6⟩
        · have HI4 := Lib.hid (H4.out)
          have HS3 := Lib.hid (fun W (hW : Below W0.heap.size W0 W) => H3.out W 2 (by omega) (by omega) hW)
          have HO4 := Lib.hid (fun W (hW : Below W0.heap.size W0 W) => H4.out W 2 hW)
          rcases HIS.out 2 (by omega) (by omega) with hiv | hiv | ⟨hiv, hno⟩
          · rw [hiv] at HO4
            clear hiv HI4
            go_wp2_with (first
              | (go_at_call 27; refine (HS3.out _ HBj.out).mono ?_; rintro e w5 ⟨rfl, h5⟩; have h5 := HBj.out.trs h5; obtain ⟨f0, f1⟩ := HCE.out _ h5)
              | (go_at_call 25; refine (HO4.out _ h5).mono ?_; rintro e w6 ⟨rfl, h6⟩; have h6 := h5.trs h6))
            go_roundg (5 - 3)
            case measure => omega
            case rel => exact ⟨3, by first | rfl | go_num, by first | rfl | (simp), by omega, by omega, by omega, h6⟩
          · rw [hiv] at HO4
            clear hiv HI4
            go_wp2_with (first
              | (go_at_call 27; refine (HS3.out _ HBj.out).mono ?_; rintro e w5 ⟨rfl, h5⟩; have h5 := HBj.out.trs h5; obtain ⟨f0, f1⟩ := HCE.out _ h5)
              | (go_at_call 25; refine (HO4.out _ h5).mono ?_; rintro e w6 ⟨rfl, h6⟩; have h6 := h5.trs h6))
            go_roundg (5 - 3)
            case measure => omega
            case rel => exact ⟨3, by first | rfl | go_num, by first | rfl | (simp), by omega, by omega, by omega, h6⟩
          · rw [hiv] at HO4
            clear hiv HI4 hno
            go_wp2_with (first
              | (go_at_call 27; refine (HS3.out _ HBj.out).mono ?_; rintro e w5 ⟨rfl, h5⟩; have h5 := HBj.out.trs h5; obtain ⟨f0, f1⟩ := HCE.out _ h5)
              | (go_at_call 25; refine (HO4.out _ h5).mono ?_; rintro e w6 ⟨rfl, h6⟩; have h6 := h5.trs h6))
            go_roundg (5 - 3)
            case measure => omega
            case rel => exact ⟨3, by first | rfl | go_num, by first | rfl | (simp), by omega, by omega, by omega, h6⟩
        · have HI4 := Lib.hid (H4.out)
          have HS3 := Lib.hid (fun W (hW : Below W0.heap.size W0 W) => H3.out W 3 (by omega) (by omega) hW)
          have HO4 := Lib.hid (fun W (hW : Below W0.heap.size W0 W) => H4.out W 3 hW)
          rcases HIS.out 3 (by omega) (by omega) with hiv | hiv | ⟨hiv, hno⟩
          · rw [hiv] at HO4
            clear hiv HI4
            go_wp2_with (first
              | (go_at_call 27; refine (HS3.out _ HBj.out).mono ?_; rintro e w5 ⟨rfl, h5⟩; have h5 := HBj.out.trs h5; obtain ⟨f0, f1⟩ := HCE.out _ h5)
              | (go_at_call 25; refine (HO4.out _ h5).mono ?_; rintro e w6 ⟨rfl, h6⟩; have h6 := h5.trs h6))
            go_roundg (5 - 4)
            case measure => omega
            case rel => exact ⟨4, by first | rfl | go_num, by first | rfl | (simp), by omega, by omega, by omega, h6⟩
          · rw [hiv] at HO4
            clear hiv HI4
            go_wp2_with (first
              | (go_at_call 27; refine (HS3.out _ HBj.out).mono ?_; rintro e w5 ⟨rfl, h5⟩; have h5 := HBj.out.trs h5; obtain ⟨f0, f1⟩ := HCE.out _ h5)
              | (go_at_call 25; refine (HO4.out _ h5).mono ?_; rintro e w6 ⟨rfl, h6⟩; have h6 := h5.trs h6))
            go_roundg (5 - 4)
            case measure => omega
            case rel => exact ⟨4, by first | rfl | go_num, by first | rfl | (simp), by omega, by omega, by omega, h6⟩
          · rw [hiv] at HO4
            clear hiv HI4 hno
            go_wp2_with (first
              | (go_at_call 27; refine (HS3.out _ HBj.out).mono ?_; rintro e w5 ⟨rfl, h5⟩; have h5 := HBj.out.trs h5; obtain ⟨f0, f1⟩ := HCE.out _ h5)
              | (go_at_call 25; refine (HO4.out _ h5).mono ?_; rintro e w6 ⟨rfl, h6⟩; have h6 := h5.trs h6))
            go_roundg (5 - 4)
            case measure => omega
            case rel => exact ⟨4, by first | rfl | go_num, by first | rfl | (simp), by omega, by omega, by omega, h6⟩
        · have HI4 := Lib.hid (H4.out)
          have HS3 := Lib.hid (fun W (hW : Below W0.heap.size W0 W) => H3.out W 4 (by omega) (by omega) hW)
          have HO4 := Lib.hid (fun W (hW : Below W0.heap.size W0 W) => H4.out W 4 hW)
          rcases HIS.out 4 (by omega) (by omega) with hiv | hiv | ⟨hiv, hno⟩
          · rw [hiv] at HO4
            clear hiv HI4
            go_wp2_with (first
              | (go_at_call 27; refine (HS3.out _ HBj.out).mono ?_; rintro e w5 ⟨rfl, h5⟩; have h5 := HBj.out.trs h5; obtain ⟨f0, f1⟩ := HCE.out _ h5)
              | (go_at_call 25; refine (HO4.out _ h5).mono ?_; rintro e w6 ⟨rfl, h6⟩; have h6 := h5.trs h6))
            go_roundg (5 - 5)
            case measure => omega
            case rel => exact ⟨5, by first | rfl | go_num, by first | rfl | (simp), by omega, by omega, by omega, h6⟩
          · rw [hiv] at HO4
            clear hiv HI4
            go_wp2_with (first
              | (go_at_call 27; refine (HS3.out _ HBj.out).mono ?_; rintro e w5 ⟨rfl, h5⟩; have h5 := HBj.out.trs h5; obtain ⟨f0, f1⟩ := HCE.out _ h5)
              | (go_at_call 25; refine (HO4.out _ h5).mono ?_; rintro e w6 ⟨rfl, h6⟩; have h6 := h5.trs h6))
            go_roundg (5 - 5)
            case measure => omega
            case rel => exact ⟨5, by first | rfl | go_num, by first | rfl | (simp), by omega, by omega, by omega, h6⟩
          · exact absurd (by decide) hno
        · go_wp2_with (go_at_call 15; refine (Sane_any _).mono ?_; rintro e w10 ⟨rfl, h10⟩)
          go_ret
          exact ⟨rfl, (HB0.out.trs HBj.out).trs h10⟩

set_option maxRecDepth 100000 in
set_option maxHeartbeats 4000000 in
theorem AlertSeveral_walk (w : World) (A : Option Addr) (c : Nat) (L : List (Int × Int × Int)) (hr : RdT w w.heap.size A L) (_hm : L.length ≤ maxLen) (a b : Int) (_hs : (Lit.int .i64 a).wf = true ∧ (Lit.int .i64 b).wf = true) :
    Calls Try.prog 11 #[.slice A L.length c, .agg #[.int .i64 a, .int .i64 b]] w fun e w' => e = .returned (.bool true) ∧ Below w.heap.size w w' := by
  have hB0 := below_alloc w (.cells #[.int .i64 a, .int .i64 b] 40)
  have hbx := Box.new w 40 #[.int .i64 a, .int .i64 b]
  have HR := Lib.hid (hr.on hB0)
  have HR0 := Lib.hid hr
  clear hr _hs
  have HB0 := Lib.hid hB0
  have HBX := Lib.hid hbx
  clear hB0 hbx
  by_cases hl : L.length ≤ 40
  · have hd : decide ((40 : Int) < L.length) = false := by simp; omega
    have hl2 : L.length ≤ 1125899906842624 := by omega
    have HV := Lib.hid (refValid_any A c L _ HR.out hl2)
    cases hv : vldT L <;> rw [hv] at HV
    · generalize L.length = n at *
      go_enter Try.func11, Try.ntmps11
      go_wp2_with (first
        | (go_at_call 14; refine (Long_any _ _ _ _).mono ?_; rintro e w' ⟨rfl, rfl⟩)
        | (go_at_call 22; refine HV.out.mono ?_; rintro e w1 ⟨rfl, h1⟩)
        | (go_at_call 15; refine (Sane_any _).mono ?_; rintro e w10 ⟨rfl, h10⟩))
      go_ret
      exact ⟨rfl, (HB0.out.trs h1).trs h10⟩
    · rcases (show mac L = 0 ∨ mac L = 1 ∨ mac L = 2 ∨ mac L = 3 ∨ mac L = 4 by have := mac_le L; omega) with h | h | h | h | h
      · cases hg : longB L L.length
        · exact AlertSeveral_0a w A c L HR0.out hl hv h hg a b
        · exact AlertSeveral_0b w A c L HR0.out hl hv h hg a b
      · exact AlertSeveral_1 w A c L HR0.out hl hv h a b
      · exact AlertSeveral_2 w A c L HR0.out hl hv h a b
      · exact AlertSeveral_3 w A c L HR0.out hl hv h a b
      · exact AlertSeveral_4 w A c L HR0.out hl hv h a b
  · have hd : decide ((40 : Int) < L.length) = true := by simp; omega
    go_enter Try.func11, Try.ntmps11
    go_wp2_with (first
      | (go_at_call 14; refine (Long_any _ _ _ _).mono ?_; rintro e w' ⟨rfl, rfl⟩)
      | (go_at_call 15; refine (Sane_any _).mono ?_; rintro e w10 ⟨rfl, h10⟩))
    go_ret
    exact ⟨rfl, HB0.out.trs h10⟩
end Go.Proofs.Ytdafiblnanpiiaa
