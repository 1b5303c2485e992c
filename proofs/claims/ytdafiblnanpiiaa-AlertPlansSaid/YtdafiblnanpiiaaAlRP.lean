/- Walks over alert's reference: plans: which lists are plans, which are right, which do all, how many minutes are free. -/
import Derived.Test.YtdafiblnanpiiaaAlUrR
namespace Go.Proofs.Ytdafiblnanpiiaa
open Go.RowKit
set_option linter.unusedSimpArgs false
set_option linter.unusedVariables false

def badP (n : Nat) (p : List Int) (k : Nat) : Bool := !(btw (-1) (ix p k) ((n : Int) - 1))
theorem plnB_eq (n : Nat) (p : List Int) : plnB n p = (decide (p.length = 100) && !(anyF (badP n p) p.length)) := rfl

set_option maxRecDepth 100000 in
set_option maxHeartbeats 8000000 in
theorem refisPlan_any (A : Option Addr) (n c : Nat) (A2 : Option Addr) (c2 : Nat) (p : List Int) (w : World) (hn : n ≤ 1000000) (hr2 : RdI w w.heap.size A2 p) (hl2 : p.length ≤ 1000000) :
    Calls Try.prog 96 #[.slice A n c, .slice A2 p.length c2] w fun e w' => e = .returned (.bool (plnB n p)) ∧ w = w' := by
  have HR := Lib.hid hr2
  clear hr2
  by_cases hlen : p.length = 100
  · have HNO : Hid (∀ k, k < 100 → badP n p k = true → plnB n p = false) := Lib.hid (fun k hk h => by
      rw [plnB_eq, anyF_iff.2 ⟨k, by omega, h⟩]; simp)
    have HYES : Hid ((∀ k, k < 100 → badP n p k = false) → plnB n p = true) := Lib.hid (fun h => by
      rw [plnB_eq, anyF_no.2 (fun k hk => h k (by omega)), hlen]; rfl)
    have HBP : Hid (∀ k, badP n p k = !(btw (-1) (ix p k) ((n : Int) - 1))) := Lib.hid (fun _ => rfl)
    generalize plnB n p = pb at *
    generalize badP n p = bp at *
    have HN := Lib.hid hlen
    rw [hlen]
    clear hlen
    go_enter Try.func96, Try.ntmps96
    go_wp2
    go_loopg [5] 100 (fun k t wr => ∃ m : Nat, t = .int .i64 m ∧ m ≤ 100 ∧ 100 - m ≤ k ∧ Aside (∀ j, j < m → bp j = false) ∧ w = wr)
    case atStart => exact ⟨0, rfl, by omega, by omega, (fun j hj => by omega : ∀ j, j < 0 → bp j = false), rfl⟩
    case round =>
      obtain ⟨m, rfl, hm, hk, HF, rfl⟩ := hrel
      by_cases hlm : m < 100
      · obtain ⟨b2, o2, rfl, hb2, d1⟩ := HR.out.at_ (k := m) (by rw [HN.out]; exact hlm)
        have hdm : decide ((m : Int) < 100) = true := by rw [decide_eq_true_eq]; omega
        have HBM := Lib.hid (HBP.out m)
        generalize ix p m = q at *
        cases hq : btw (-1) q ((n : Int) - 1)
        · have HQ := Lib.hid hq
          clear hq
          have HE := Lib.hid (HNO.out m hlm (by rw [HBM.out, HQ.out]; rfl))
          go_wp2_with (go_at_call 63; (with_reducible refine (within_any _ _ _ _).mono ?_); rintro e w' ⟨rfl, rfl⟩; rw [HQ.out])
          go_ret
          exact ⟨ret_bool HE.out.symm, rfl⟩
        · have HQ := Lib.hid hq
          clear hq
          go_wp2_with (go_at_call 63; (with_reducible refine (within_any _ _ _ _).mono ?_); rintro e w' ⟨rfl, rfl⟩; rw [HQ.out])
          go_roundg (100 - (m + 1))
          case measure => omega
          case rel => exact ⟨m + 1, by go_num, by omega, by omega, (fun j hj => by
            rcases Nat.lt_succ_iff_lt_or_eq.1 hj with h | rfl
            · exact HF.out j h
            · rw [HBM.out, HQ.out]; rfl : ∀ j, j < m + 1 → bp j = false), rfl⟩
      · obtain rfl : m = 100 := by omega
        have HE := Lib.hid (HYES.out HF.out)
        go_wp2
        go_ret
        exact ⟨ret_bool HE.out.symm, rfl⟩
  · have hE : plnB n p = false := by unfold plnB; rw [decide_eq_false hlen]; rfl
    have HE := Lib.hid hE
    have hd : (((p.length : Int)) == 100) = false := by rw [beq_eq_false_iff_ne]; omega
    have hd2 : (((p.length : Int)) != 100) = true := by rw [bne_iff_ne]; omega
    clear hE
    generalize plnB n p = pb at *
    generalize p.length = m at *
    go_enter Try.func96, Try.ntmps96
    go_wp2
    go_ret
    exact ⟨ret_bool HE.out.symm, rfl⟩

theorem refasked_any (A : Option Addr) (c : Nat) (L : List (Int × Int × Int)) (A2 : Option Addr) (c2 : Nat) (p : List Int) (w : World) (hr : RdT w w.heap.size A L) (hl : L.length ≤ 1000000) (hr2 : RdI w w.heap.size A2 p) (hl2 : p.length ≤ 1000000) :
    Calls Try.prog 83 #[.slice A L.length c, .slice A2 p.length c2] w fun e w' => e = .returned (.int .i64 (AskE L p)) ∧ Below w.heap.size w w' := by
  have HV := Lib.hid (refValid_any A c L w hr (by omega))
  have HP := Lib.hid (fun W (hW : Below w.heap.size w W) => refisPlan_any A L.length c A2 c2 p W hl (hr2.on hW) hl2)
  have HE : Hid (AskE L p = if vldT L then (if plnB L.length p then 0 else 81) else 80) := Lib.hid rfl
  clear hr hr2
  generalize AskE L p = E at *
  generalize plnB L.length p = pb at *
  generalize L.length = n at *
  generalize p.length = m at *
  cases hv : vldT L <;> rw [hv] at HV HE <;> clear hv
  · go_enter Try.func83, Try.ntmps83
    go_wp2_with (go_at_call 22; refine HV.out.mono ?_; rintro e w1 ⟨rfl, h1⟩)
    go_ret
    exact ⟨ret_int HE.out.symm, h1⟩
  · cases pb
    all_goals
      go_enter Try.func83, Try.ntmps83
      go_wp2_with (first
        | (go_at_call 22; refine HV.out.mono ?_; rintro e w1 ⟨rfl, h1⟩)
        | (go_at_call 96; refine (HP.out _ h1).mono ?_; rintro e w' ⟨rfl, rfl⟩))
      go_ret
      exact ⟨ret_int HE.out.symm, h1⟩

theorem rightM_not {L : List (Int × Int × Int)} {p : List Int} {m : Nat} (h : ix p m = -1) : rightM L p m = true := by unfold rightM; rw [h]; rfl
theorem rightM_is {L : List (Int × Int × Int)} {p : List Int} {m k : Nat} (h : ix p m = k) : rightM L p m = openB (ta L k) (tb L k) m := by
  unfold rightM; rw [h, decide_eq_false (by omega), Int.toNat_natCast]; rfl
theorem rightB_no1 {L : List (Int × Int × Int)} {p : List Int} {m : Nat} (hm : m < 100) (h : rightM L p m = false) : rightB L p = false := by
  cases hb : rightB L p
  · rfl
  · have := (rightB_iff'.1 hb).1 m hm; rw [h] at this; cases this
theorem rightB_no2 {L : List (Int × Int × Int)} {p : List Int} {i : Nat} (hi : i < L.length) (h : tc L i < cntI p i) : rightB L p = false := by
  cases hb : rightB L p
  · rfl
  · have := (rightB_iff'.1 hb).2 i hi; omega

set_option maxRecDepth 100000 in
set_option maxHeartbeats 16000000 in
theorem refright_any (A : Option Addr) (c : Nat) (L : List (Int × Int × Int)) (A2 : Option Addr) (c2 : Nat) (p : List Int) (w : World) (hr : RdT w w.heap.size A L) (hok : okT L) (hr2 : RdI w w.heap.size A2 p) (hp : plnB L.length p = true) :
    Calls Try.prog 84 #[.slice A L.length c, .slice A2 p.length c2] w fun e w' => e = .returned (.bool (rightB L p)) ∧ Below w.heap.size w w' := by
  have hpl := (plnB_iff.1 hp).1
  have HP := Lib.hid (plnB_iff.1 hp).2
  have hn12 := hok.1.2
  have hn1 := hok.1.1
  have HM := Lib.hid (fun W (hW : Below w.heap.size w W) => minutes_any A c L.length A2 c2 p W hn12 (hr2.on hW) (fun m hm => (plnB_iff.1 hp).2 m (by omega)) (by omega))
  have HR := Lib.hid hr
  have HR2 := Lib.hid hr2
  have HN1 := Lib.hid (fun m (hm : m < 100) (h : rightM L p m = false) => rightB_no1 hm h)
  have HN2 := Lib.hid (fun i (hi : i < L.length) (h : tc L i < cntI p i) => rightB_no2 hi h)
  have HYES := Lib.hid (fun h => (rightB_iff' (L := L) (p := p)).2 h)
  have HMI := Lib.hid (fun m (h : ix p m = -1) => rightM_not (L := L) h)
  have HMK := Lib.hid (fun m k (h : ix p m = (k : Nat)) => rightM_is (L := L) h)
  rw [hpl] at HM ⊢
  clear hr hr2 hp hok
  generalize rightB L p = rb at *
  generalize rightM L p = rm at *
  have HPL := Lib.hid hpl
  clear hpl
  generalize hn : L.length = n at *
  have HN := Lib.hid hn; clear hn
  go_enter Try.func84, Try.ntmps84
  go_wp2
  go_loopg [5] 100 (fun k t wr => ∃ m : Nat, t = .int .i64 m ∧ m ≤ 100 ∧ 100 - m ≤ k ∧ Aside (∀ j, j < m → rm j = true) ∧ Below w.heap.size w wr)
  case atStart => exact ⟨0, rfl, by omega, by omega, (fun j hj => by omega : ∀ j, j < 0 → rm j = true), Below.refl _ _⟩
  case round =>
    obtain ⟨m, rfl, hm, hk, HF, hB⟩ := hrel
    by_cases hlm : m < 100
    · obtain ⟨b2, o2, rfl, hb2, d1⟩ := HR2.out.at_ (k := m) (by rw [HPL.out]; exact hlm)
      rw [← hB.cell hb2] at d1
      have hdm : decide ((m : Int) < 100) = true := by rw [decide_eq_true_eq]; omega
      have hqb := HP.out m hlm
      have HMIm := Lib.hid (HMI.out m)
      have HMKm := Lib.hid (HMK.out m)
      generalize ix p m = q at *
      have HB := Lib.hid hB
      rcases (show q = -1 ∨ ∃ kb : Nat, q = kb ∧ kb < n by
        by_cases h1 : q < 0
        · exact .inl (by omega)
        · exact .inr ⟨q.toNat, by omega, by omega⟩) with hq | ⟨kb, hkb, hkn⟩
      · have HT := Lib.hid (HMIm.out hq)
        have hdb : decide (0 ≤ q) = false := by rw [decide_eq_false_iff_not]; omega
        clear hq hqb hB
        go_wp2
        go_roundg (100 - (m + 1))
        case measure => omega
        case rel => exact ⟨m + 1, by go_num, by omega, by omega, (fun j hj => by
            rcases Nat.lt_succ_iff_lt_or_eq.1 hj with h | rfl
            · exact HF.out j h
            · exact HT.out : ∀ j, j < m + 1 → rm j = true), HB.out⟩
      · have HT := Lib.hid (HMKm.out kb hkb)
        have hdb : decide (0 ≤ q) = true := by rw [decide_eq_true_eq]; omega
        have hq0 : 0 ≤ q := by omega
        have hqn : q < (n : Int) := by omega
        have hqt : q.toNat = kb := by omega
        obtain ⟨bb, o, rfl, hbb, cc1, cc2, cc3⟩ := HR.out.at_ (k := kb) (by rw [HN.out]; exact hkn)
        rw [← hB.cell hbb] at cc1 cc2 cc3
        clear hkb hqb hB
        generalize ta L kb = X at *
        generalize tb L kb = Y at *
        generalize tc L kb = Z at *
        cases ho : openB X Y m
        · have HO := Lib.hid ho
          have HE := Lib.hid (HN1.out m hlm (by rw [HT.out, HO.out]))
          clear ho
          go_wp2_with (go_at_call 95; refine (refopen_any _ _ _ _ _).mono ?_; rintro e w1 ⟨rfl, h1⟩; rw [HO.out])
          go_ret
          exact ⟨ret_bool HE.out.symm, HB.out.trs h1⟩
        · have HO := Lib.hid ho
          have HE := Lib.hid (show rm m = true by rw [HT.out, HO.out])
          clear ho
          go_wp2_with (go_at_call 95; refine (refopen_any _ _ _ _ _).mono ?_; rintro e w1 ⟨rfl, h1⟩; rw [HO.out])
          go_roundg (100 - (m + 1))
          case measure => omega
          case rel => exact ⟨m + 1, by go_num, by omega, by omega, (fun j hj => by
            rcases Nat.lt_succ_iff_lt_or_eq.1 hj with h | rfl
            · exact HF.out j h
            · exact HE.out : ∀ j, j < m + 1 → rm j = true), HB.out.trs h1⟩
    · obtain rfl : m = 100 := by omega
      have HB := Lib.hid hB
      clear hB
      go_wp2_with (go_at_call 79; refine (HM.out _ HB.out).mono ?_; rintro e w2 ⟨c', rfl, h2, hb3⟩; have HX3 := Lib.hid hb3; have HB2 := Lib.hid (HB.out.trs h2); clear hb3 h2)
      go_loopg [7] n (fun k t wr => ∃ i : Nat, t = .int .i64 i ∧ i ≤ n ∧ n - i ≤ k ∧ Aside (∀ j, j < i → cntI p j ≤ tc L j) ∧ Below w2.heap.size w2 wr)
      case atStart => exact ⟨0, rfl, by omega, by omega, (fun j hj => by omega : ∀ j, j < 0 → cntI p j ≤ tc L j), Below.refl _ _⟩
      case round =>
        obtain ⟨i, rfl, hi, hk2, HG, hB⟩ := hrel
        by_cases hlt : i < n
        · obtain ⟨bb, o, rfl, hbb, c1, c2x, c3⟩ := HR.out.at_ (k := i) (by rw [HN.out]; exact hlt)
          rw [← (HB2.out.trs hB).cell hbb] at c3
          have d1 := (BoxI.on HX3.out hB).cell (k := i) (by rw [cntsT_len]; exact hlt)
          rw [cntsT_ix _ _ _ hlt] at d1
          have HNi := Lib.hid (HN2.out i hlt)
          have HBB := Lib.hid hB
          clear c1 c2x hB
          have HGE : Hid (cntI p i ≤ tc L i → ∀ j, j < i + 1 → cntI p j ≤ tc L j) := Lib.hid (fun h0 j hj => by
            rcases Nat.lt_succ_iff_lt_or_eq.1 hj with h | rfl
            · exact HG.out j h
            · exact h0)
          generalize cntI p i = x at *
          generalize tc L i = z at *
          by_cases hx : z < x
          · have HX := Lib.hid hx
            have hdx : decide (z < x) = true := by rw [decide_eq_true_eq]; exact hx
            clear hx
            go_wp2
            go_quiet (fail)
            go_wp2
            go_ret
            exact ⟨ret_bool (HNi.out HX.out).symm, HB2.out.trs (HBB.out.drewsN _)⟩
          · have HX := Lib.hid hx
            have hdx : decide (z < x) = false := by rw [decide_eq_false_iff_not]; exact hx
            clear hx
            go_wp2
            go_quiet (fail)
            go_wp2
            go_roundg (n - (i + 1))
            case measure => omega
            case rel => exact ⟨i + 1, by go_num, by omega, by omega, HGE.out (by have := HX.out; omega), HBB.out.drewsN _⟩
        · obtain rfl : n = i := by omega
          have HE := Lib.hid (HYES.out ⟨HF.out, fun j hj => HG.out j hj⟩)
          have HBB := Lib.hid hB
          clear hB
          go_wp2
          go_ret
          exact ⟨ret_bool HE.out.symm, HB2.out.trs HBB.out⟩

theorem doesB_no {L : List (Int × Int × Int)} {p : List Int} {i : Nat} (hi : i < L.length) (h : ¬ cntI p i = tc L i) : doesB L p = false := by
  cases hb : doesB L p
  · rfl
  · exact absurd (doesB_iff.1 hb i hi) h

set_option maxRecDepth 100000 in
set_option maxHeartbeats 16000000 in
theorem refdoesAll_any (A : Option Addr) (c : Nat) (L : List (Int × Int × Int)) (A2 : Option Addr) (c2 : Nat) (p : List Int) (w : World) (hr : RdT w w.heap.size A L) (hok : okT L) (hr2 : RdI w w.heap.size A2 p) (hp : plnB L.length p = true) :
    Calls Try.prog 87 #[.slice A L.length c, .slice A2 p.length c2] w fun e w' => e = .returned (.bool (allB L p)) ∧ Below w.heap.size w w' := by
  have hpl := (plnB_iff.1 hp).1
  have hn12 := hok.1.2
  have hn1 := hok.1.1
  have HM := Lib.hid (minutes_any A c L.length A2 c2 p w hn12 hr2 (fun m hm => (plnB_iff.1 hp).2 m (by omega)) (by omega))
  have HRT := Lib.hid (fun W (hW : Below w.heap.size w W) => refright_any A c L A2 c2 p W (hr.on hW) hok (hr2.on hW) hp)
  have HR := Lib.hid hr
  have HNO : Hid (∀ i, i < L.length → ¬ cntI p i = tc L i → allB L p = false) := Lib.hid (fun i hi h => by unfold allB; rw [doesB_no hi h, Bool.and_false])
  have HYES : Hid ((∀ i, i < L.length → cntI p i = tc L i) → allB L p = rightB L p) := Lib.hid (fun h => by unfold allB; rw [doesB_iff.2 h, Bool.and_true])
  rw [hpl] at HM HRT ⊢
  clear hr hr2 hp hok hpl
  generalize allB L p = ab at *
  generalize rightB L p = rb at *
  generalize hn : L.length = n at *
  have HN := Lib.hid hn; clear hn
  go_enter Try.func87, Try.ntmps87
  go_wp2_with (go_at_call 79; refine HM.out.mono ?_; rintro e w2 ⟨c', rfl, h2, hb3⟩; have HX3 := Lib.hid hb3; have HB2 := Lib.hid h2; clear hb3 h2)
  go_loopg [6] n (fun k t wr => ∃ i : Nat, t = .int .i64 i ∧ i ≤ n ∧ n - i ≤ k ∧ Aside (∀ j, j < i → cntI p j = tc L j) ∧ Below w2.heap.size w2 wr)
  case atStart => exact ⟨0, rfl, by omega, by omega, (fun j hj => by omega : ∀ j, j < 0 → cntI p j = tc L j), Below.refl _ _⟩
  case round =>
    obtain ⟨i, rfl, hi, hk2, HG, hB⟩ := hrel
    by_cases hlt : i < n
    · obtain ⟨bb, o, rfl, hbb, c1, c2x, c3⟩ := HR.out.at_ (k := i) (by rw [HN.out]; exact hlt)
      rw [← (HB2.out.trs hB).cell hbb] at c3
      have d1 := (BoxI.on HX3.out hB).cell (k := i) (by rw [cntsT_len]; exact hlt)
      rw [cntsT_ix _ _ _ hlt] at d1
      have HNi := Lib.hid (HNO.out i hlt)
      have HBB := Lib.hid hB
      clear c1 c2x hB
      have HGE : Hid (cntI p i = tc L i → ∀ j, j < i + 1 → cntI p j = tc L j) := Lib.hid (fun h0 j hj => by
        rcases Nat.lt_succ_iff_lt_or_eq.1 hj with h | rfl
        · exact HG.out j h
        · exact h0)
      generalize cntI p i = x at *
      generalize tc L i = z at *
      by_cases hx : x = z
      · have HX := Lib.hid hx
        have hdx : (x == z) = true := by rw [beq_iff_eq]; exact hx
        have hdx2 : (x != z) = false := by rw [bne_eq_false_iff_eq]; exact hx
        clear hx
        go_wp2
        go_quiet (fail)
        go_wp2
        go_roundg (n - (i + 1))
        case measure => omega
        case rel => exact ⟨i + 1, by go_num, by omega, by omega, HGE.out HX.out, HBB.out.drewsN _⟩
      · have HX := Lib.hid hx
        have hdx : (x == z) = false := by rw [beq_eq_false_iff_ne]; exact hx
        have hdx2 : (x != z) = true := by rw [bne_iff_ne]; exact hx
        clear hx
        go_wp2
        go_quiet (fail)
        go_wp2
        go_ret
        exact ⟨ret_bool (HNi.out HX.out).symm, HB2.out.trs (HBB.out.drewsN _)⟩
    · obtain rfl : n = i := by omega
      have HE := Lib.hid (HYES.out (fun j hj => HG.out j hj))
      have HBB := Lib.hid hB
      clear hB
      go_wp2_with (go_at_call 84; refine (HRT.out _ (HB2.out.trs HBB.out)).mono ?_; rintro e w4 ⟨rfl, h4⟩)
      go_ret
      exact ⟨ret_bool HE.out.symm, (HB2.out.trs HBB.out).trs h4⟩

theorem AskE_zero {L : List (Int × Int × Int)} {p : List Int} (h : AskE L p = 0) : vldT L = true ∧ plnB L.length p = true := by
  unfold AskE at h
  cases hv : vldT L <;> cases hp : plnB L.length p <;> rw [hv, hp] at h <;> simp at h
  exact ⟨rfl, rfl⟩

theorem refRight_any (A : Option Addr) (c : Nat) (L : List (Int × Int × Int)) (A2 : Option Addr) (c2 : Nat) (p : List Int) (w : World) (hr : RdT w w.heap.size A L) (hl : L.length ≤ 1000000) (hr2 : RdI w w.heap.size A2 p) (hl2 : p.length ≤ 1000000) :
    Calls Try.prog 48 #[.slice A L.length c, .slice A2 p.length c2] w fun e w' => e = .returned (RightV L p) ∧ Below w.heap.size w w' := by
  have HA := Lib.hid (refasked_any A c L A2 c2 p w hr hl hr2 hl2)
  by_cases h0 : AskE L p = 0
  · obtain ⟨hv, hp⟩ := AskE_zero h0
    have HW := Lib.hid (fun W (hW : Below w.heap.size w W) => refright_any A c L A2 c2 p W (hr.on hW) (okT_of hv) (hr2.on hW) hp)
    have hV : RightV L p = .tuple #[.bool (rightB L p), .int .i64 0] := by unfold RightV; rw [h0]; rfl
    rw [hV]
    rw [h0] at HA
    clear hr hr2 hv hp hV h0
    generalize rightB L p = rb at *
    generalize L.length = n at *
    generalize p.length = m at *
    go_enter Try.func48, Try.ntmps48
    go_wp2_with (first
      | (go_at_call 83; refine HA.out.mono ?_; rintro e w1 ⟨rfl, h1⟩)
      | (go_at_call 84; refine (HW.out _ h1).mono ?_; rintro e w2 ⟨rfl, h2⟩))
    go_ret2
    exact ⟨rfl, h1.trs h2⟩
  · have hV : RightV L p = .tuple #[.bool false, .int .i64 (AskE L p)] := by unfold RightV; rw [decide_eq_false h0]; rfl
    rw [hV]
    have hd : (AskE L p == 0) = false := by rw [beq_eq_false_iff_ne]; exact h0
    clear hr hr2 hV h0
    generalize AskE L p = E at *
    generalize L.length = n at *
    generalize p.length = m at *
    go_enter Try.func48, Try.ntmps48
    go_wp2_with (go_at_call 83; refine HA.out.mono ?_; rintro e w1 ⟨rfl, h1⟩)
    go_ret2
    exact ⟨rfl, h1⟩

theorem refDoesAll_any (A : Option Addr) (c : Nat) (L : List (Int × Int × Int)) (A2 : Option Addr) (c2 : Nat) (p : List Int) (w : World) (hr : RdT w w.heap.size A L) (hl : L.length ≤ 1000000) (hr2 : RdI w w.heap.size A2 p) (hl2 : p.length ≤ 1000000) :
    Calls Try.prog 50 #[.slice A L.length c, .slice A2 p.length c2] w fun e w' => e = .returned (DoesV L p) ∧ Below w.heap.size w w' := by
  have HA := Lib.hid (refasked_any A c L A2 c2 p w hr hl hr2 hl2)
  by_cases h0 : AskE L p = 0
  · obtain ⟨hv, hp⟩ := AskE_zero h0
    have HW := Lib.hid (fun W (hW : Below w.heap.size w W) => refdoesAll_any A c L A2 c2 p W (hr.on hW) (okT_of hv) (hr2.on hW) hp)
    have hV : DoesV L p = .tuple #[.bool (allB L p), .int .i64 0] := by unfold DoesV; rw [h0]; rfl
    rw [hV]
    rw [h0] at HA
    clear hr hr2 hv hp hV h0
    generalize allB L p = rb at *
    generalize L.length = n at *
    generalize p.length = m at *
    go_enter Try.func50, Try.ntmps50
    go_wp2_with (first
      | (go_at_call 83; refine HA.out.mono ?_; rintro e w1 ⟨rfl, h1⟩)
      | (go_at_call 87; refine (HW.out _ h1).mono ?_; rintro e w2 ⟨rfl, h2⟩))
    go_ret2
    exact ⟨rfl, h1.trs h2⟩
  · have hV : DoesV L p = .tuple #[.bool false, .int .i64 (AskE L p)] := by unfold DoesV; rw [decide_eq_false h0]; rfl
    rw [hV]
    have hd : (AskE L p == 0) = false := by rw [beq_eq_false_iff_ne]; exact h0
    clear hr hr2 hV h0
    generalize AskE L p = E at *
    generalize L.length = n at *
    generalize p.length = m at *
    go_enter Try.func50, Try.ntmps50
    go_wp2_with (go_at_call 83; refine HA.out.mono ?_; rintro e w1 ⟨rfl, h1⟩)
    go_ret2
    exact ⟨rfl, h1⟩

set_option maxRecDepth 100000 in
set_option maxHeartbeats 8000000 in
theorem refFree_any (A : Option Addr) (c : Nat) (L : List (Int × Int × Int)) (A2 : Option Addr) (c2 : Nat) (p : List Int) (w : World) (hr : RdT w w.heap.size A L) (hl : L.length ≤ 1000000) (hr2 : RdI w w.heap.size A2 p) (hl2 : p.length ≤ 1000000) :
    Calls Try.prog 53 #[.slice A L.length c, .slice A2 p.length c2] w fun e w' => e = .returned (FreeV L p) ∧ Below w.heap.size w w' := by
  have HA := Lib.hid (refasked_any A c L A2 c2 p w hr hl hr2 hl2)
  by_cases h0 : AskE L p = 0
  · obtain ⟨hv, hp⟩ := AskE_zero h0
    have hpl := (plnB_iff.1 hp).1
    have HP := Lib.hid (plnB_iff.1 hp).2
    have hV : FreeV L p = .tuple #[.int .i64 (freeT p 100), .int .i64 0] := by unfold FreeV; rw [h0]; rfl
    rw [hV]
    rw [h0] at HA
    have HFS : Hid (∀ m, freeT p (m + 1) = freeT p m + (if ix p m = -1 then 1 else 0)) := Lib.hid (fun _ => rfl)
    have HFB := Lib.hid (freeT_bd p)
    have HF0 : Hid (freeT p 0 = 0) := Lib.hid rfl
    have HR2 := Lib.hid hr2
    have HPL := Lib.hid hpl
    rw [hpl] at HA ⊢
    clear hr hr2 hv hp hV h0 hpl
    generalize freeT p = fr at *
    generalize L.length = n at *
    go_enter Try.func53, Try.ntmps53
    go_wp2_with (go_at_call 83; refine HA.out.mono ?_; rintro e w1 ⟨rfl, h1⟩)
    have HB1 := Lib.hid h1
    clear h1
    go_loopg [7, 8] 100 (fun k s t wr => ∃ j : Nat, s = .int .i64 (fr j) ∧ t = .int .i64 j ∧ j ≤ 100 ∧ 100 - j ≤ k ∧ w1 = wr)
    case atStart => exact ⟨0, by rw [HF0.out], rfl, by omega, by omega, rfl⟩
    case round =>
      obtain ⟨j, rfl, rfl, hj, hk, rfl⟩ := hrel
      by_cases hlj : j < 100
      · obtain ⟨b2, o2, rfl, hb2, d1⟩ := HR2.out.at_ (k := j) (by rw [HPL.out]; exact hlj)
        rw [← HB1.out.cell hb2] at d1
        have hdm : decide ((j : Int) < 100) = true := by rw [decide_eq_true_eq]; omega
        have hfb := HFB.out j
        have hqb := HP.out j hlj
        have HFJ := Lib.hid (HFS.out j)
        have hf0 : 0 ≤ fr j := hfb.1
        have hf1 : fr j ≤ 100 := by omega
        clear hfb
        generalize ix p j = b at *
        generalize hgf : fr j = f at *
        clear hgf
        by_cases hb : b = -1
        · have HBX := Lib.hid hb
          have hb1 : decide (b < 0) = true := by rw [hb]; rfl
          clear hb hqb
          go_wp2
          go_roundg (100 - (j + 1))
          case measure => omega
          case rel => exact ⟨j + 1, by rw [HFJ.out, if_pos HBX.out], by go_num, by omega, by omega, rfl⟩
        · have HBX := Lib.hid hb
          have hb1 : decide (b < 0) = false := by rw [decide_eq_false_iff_not]; omega
          clear hb hqb
          go_wp2
          go_roundg (100 - (j + 1))
          case measure => omega
          case rel => exact ⟨j + 1, by rw [HFJ.out, if_neg HBX.out, Int.add_zero], by go_num, by omega, by omega, rfl⟩
      · obtain rfl : j = 100 := by omega
        go_wp2
        go_ret2
        exact ⟨rfl, HB1.out⟩
  · have hV : FreeV L p = .tuple #[.int .i64 0, .int .i64 (AskE L p)] := by unfold FreeV; rw [if_neg h0]
    rw [hV]
    have hd : (AskE L p == 0) = false := by rw [beq_eq_false_iff_ne]; exact h0
    have hd2 : (AskE L p != 0) = true := by rw [bne_iff_ne]; exact h0
    clear hr hr2 hV h0
    generalize AskE L p = E at *
    generalize L.length = n at *
    generalize p.length = m at *
    go_enter Try.func53, Try.ntmps53
    go_wp2_with (go_at_call 83; refine HA.out.mono ?_; rintro e w1 ⟨rfl, h1⟩)
    go_ret2
    exact ⟨rfl, h1⟩
end Go.Proofs.Ytdafiblnanpiiaa
