/- Walks over alert's reference: when each task is done. -/
import Derived.Test.YtdafiblnanpiiaaAlRP
namespace Go.Proofs.Ytdafiblnanpiiaa
open Go.RowKit
set_option linter.unusedSimpArgs false
set_option linter.unusedVariables false

def DonE (L : List (Int × Int × Int)) (p : List Int) : Int := if AskE L p = 0 then (if rightB L p then 0 else 2) else AskE L p
def DonK (L : List (Int × Int × Int)) (p : List Int) : List Int := if DonE L p = 0 then donesT L p else []
def donesA (L : List (Int × Int × Int)) (p : List Int) (i : Nat) : List Int := (List.range i).map (doneS L p)
theorem donesA_succ (L : List (Int × Int × Int)) (p : List Int) (i : Nat) : donesA L p (i + 1) = donesA L p i ++ [doneS L p i] := by
  unfold donesA; rw [List.range_succ, List.map_append]; rfl
theorem donesA_len (L : List (Int × Int × Int)) (p : List Int) (i : Nat) : (donesA L p i).length = i := by simp [donesA]
theorem DonO_no {L : List (Int × Int × Int)} {p : List Int} {w W : World} {E : Int} (h : DonE L p = E) (hE : E ≠ 0) (hW : Below w.heap.size w W) : OutI (DonE L p) (DonK L p) w (.returned (.tuple #[.slice none 0 0, .int .i64 E])) W :=
  ⟨hW, none, 0, by unfold DonK; rw [h, if_neg hE]; rfl, by unfold DonK; rw [h, if_neg hE]; exact .inl rfl⟩
theorem DonO_yes {L : List (Int × Int × Int)} {p : List Int} {w W : World} {B : Nat} {v : Value} (h : DonE L p = 0) (hW : Below w.heap.size w W) (ho : OwnI W B 3 v (donesT L p)) : OutI (DonE L p) (DonK L p) w (.returned (.tuple #[v, .int .i64 0])) W := by
  obtain ⟨A, c, rfl, hr⟩ := ho.rd
  exact ⟨hW, A, c, by unfold DonK; rw [h, if_pos rfl], by unfold DonK; rw [h, if_pos rfl]; exact hr⟩

set_option maxRecDepth 100000 in
set_option maxHeartbeats 16000000 in
theorem refDone_any (A : Option Addr) (c : Nat) (L : List (Int × Int × Int)) (A2 : Option Addr) (c2 : Nat) (p : List Int) (w : World) (hr : RdT w w.heap.size A L) (hl : L.length ≤ 1000000) (hr2 : RdI w w.heap.size A2 p) (hl2 : p.length ≤ 1000000) :
    Calls Try.prog 52 #[.slice A L.length c, .slice A2 p.length c2] w (OutI (DonE L p) (DonK L p) w) := by
  have HA := Lib.hid (refasked_any A c L A2 c2 p w hr hl hr2 hl2)
  have H1 := Lib.hid (fun E W (h : DonE L p = E) (hE : E ≠ 0) (hW : Below w.heap.size w W) => DonO_no h hE hW)
  have H2 := Lib.hid (fun W B v (h : DonE L p = 0) (hW : Below w.heap.size w W) (ho : OwnI W B 3 v (donesT L p)) => DonO_yes h hW ho)
  generalize OutI (DonE L p) (DonK L p) w = Q at *
  by_cases h0 : AskE L p = 0
  · obtain ⟨hv, hp⟩ := AskE_zero h0
    have hok := okT_of hv
    have HW := Lib.hid (fun W (hW : Below w.heap.size w W) => refright_any A c L A2 c2 p W (hr.on hW) hok (hr2.on hW) hp)
    have hE : DonE L p = if rightB L p then 0 else 2 := by unfold DonE; rw [if_pos h0]
    rw [h0] at HA
    cases hrb : rightB L p <;> rw [hrb] at hE HW
    · have HE := Lib.hid hE
      clear hr hr2 hv hp h0 hok hE hrb H2
      generalize L.length = n at *
      generalize p.length = m at *
      go_enter Try.func52, Try.ntmps52
      go_wp2_with (first
        | (go_at_call 83; refine HA.out.mono ?_; rintro e w1 ⟨rfl, h1⟩)
        | (go_at_call 84; refine (HW.out _ h1).mono ?_; rintro e w2 ⟨rfl, h2⟩))
      exact H1.out 2 _ HE.out (by decide) (h1.trs h2)
    · have hE' : DonE L p = 0 := hE
      have HE := Lib.hid hE'
      have hpl := (plnB_iff.1 hp).1
      have hn12 := hok.1.2
      have HOK := Lib.hid hok.2
      have hle := (rightB_iff'.1 hrb).2
      have HR := Lib.hid hr
      have HR2 := Lib.hid hr2
      have HPL := Lib.hid hpl
      have HD0 : Hid (∀ i, doneR L p i 0 = -1) := Lib.hid (fun i => doneR_zero)
      have HDO : Hid (∀ i m, m < 100 → ix p m ≠ (i : Nat) → doneR L p i (m + 1) = doneR L p i m ∧ cntI (p.take (m + 1)) i = cntI (p.take m) i) := Lib.hid (fun i m hm h => ⟨doneR_other (by omega) h, by rw [cntI_take_succ (by omega), if_neg h, Int.add_zero]⟩)
      have HDH : Hid (∀ i m, m < 100 → i < L.length → ix p m = (i : Nat) → (cntI (p.take (m + 1)) i = cntI (p.take m) i + 1) ∧ (tc L i - cntI (p.take m) i - 1 = 0 → doneR L p i (m + 1) = (m : Int) + 1) ∧ (tc L i - cntI (p.take m) i - 1 ≠ 0 → doneR L p i (m + 1) = doneR L p i m)) :=
        Lib.hid (fun i m hm hi h => ⟨by rw [cntI_take_succ (by omega), if_pos h], fun h2 => doneR_hit (by omega) h h2, fun h2 => doneR_short (by omega) h h2 (hle i hi)⟩)
      have HDA : Hid (∀ i, doneR L p i 100 = doneS L p i) := Lib.hid (fun i => doneR_all hpl)
      have HCT := Lib.hid (fun m i => cntI_bd (p.take m) i)
      have HTL := Lib.hid (fun m => List.length_take_le m p)
      have HC0 : Hid (∀ i, cntI (p.take 0) i = 0) := Lib.hid (fun i => by rw [List.take_zero]; rfl)
      have HAS := Lib.hid (donesA_succ L p)
      have HAL := Lib.hid (donesA_len L p)
      have HA0 : Hid (donesA L p 0 = []) := Lib.hid rfl
      have HAA : Hid (donesA L p L.length = donesT L p) := Lib.hid rfl
      have H2' := Lib.hid (fun W B v => H2.out W B v hE')
      rw [hpl] at HA HW ⊢
      clear hr hr2 hv hp h0 hok hE hrb hE' hpl hle H1 H2
      generalize donesT L p = dt at *
      generalize donesA L p = da at *
      generalize doneS L p = ds at *
      generalize hn : L.length = n at *
      have HN := Lib.hid hn; clear hn
      go_enter Try.func52, Try.ntmps52
      go_wp2_with (first
        | (go_at_call 83; refine HA.out.mono ?_; rintro e w1 ⟨rfl, h1⟩)
        | (go_at_call 84; refine (HW.out _ h1).mono ?_; rintro e w2 ⟨rfl, h2⟩; have HB2 := Lib.hid (h1.trs h2); clear h1 h2))
      go_loopg [7, 8, 9, 10, 11] n (fun k v t x9 x10 x11 wr => ∃ i : Nat, t = .int .i64 i ∧ i ≤ n ∧ n - i ≤ k ∧ Below w2.heap.size w2 wr ∧ OwnI wr w2.heap.size 3 v (da i))
      case atStart => exact ⟨0, rfl, by omega, by omega, Below.refl _ _, by rw [HA0.out]; exact OwnI.nil _ _ _⟩
      case round =>
        obtain ⟨i, rfl, hi, hk, hB, hO⟩ := hrel
        by_cases hlt : i < n
        · obtain ⟨bb, o, rfl, hbb, c1, c2x, c3⟩ := HR.out.at_ (k := i) (by rw [HN.out]; exact hlt)
          rw [← (HB2.out.trs hB).cell hbb] at c3
          have hoki := HOK.out i hlt
          have HBB := Lib.hid hB
          have HO := Lib.hid hO
          clear c1 c2x hB hO
          have hz1 : 1 ≤ tc L i := by omega
          have hz2 : tc L i ≤ 100 := by omega
          have HTC : Hid (∃ z : Int, z = tc L i) := Lib.hid ⟨_, rfl⟩
          obtain ⟨z, hz⟩ := HTC.out
          rw [← hz] at hz1 hz2 c3
          have HZ := Lib.hid hz
          clear hz hoki HTC
          go_wp2
          go_quiet (fail)
          go_wp2
          go_loopg [9, 10, 11] 100 (fun k x9 x10 t wi => ∃ m : Nat, x9 = .int .i64 (doneR L p i m) ∧ x10 = .int .i64 (z - cntI (p.take m) i) ∧ t = .int .i64 m ∧ m ≤ 100 ∧ 100 - m ≤ k ∧ Below wr.heap.size wr wi)
          case atStart => exact ⟨0, by rw [HD0.out], by rw [HC0.out, Int.sub_zero], rfl, by omega, by omega, (Below.refl _ _).drewsN _⟩
          case round =>
            obtain ⟨m, t9, t10, rfl, hm, hk2, hBi⟩ := hrel
            obtain ⟨CN, hCN⟩ : ∃ CN : Int, CN = z - cntI (p.take m) i := ⟨_, rfl⟩
            obtain ⟨DR, hDR⟩ : ∃ DR : Int, DR = doneR L p i m := ⟨_, rfl⟩
            rw [← hCN] at t10
            rw [← hDR] at t9
            subst t9; subst t10
            by_cases hlm : m < 100
            · obtain ⟨b2, o2, rfl, hb2, d1⟩ := HR2.out.at_ (k := m) (by rw [HPL.out]; exact hlm)
              rw [← ((HB2.out.trs HBB.out).trs hBi).cell hb2] at d1
              have hcb := HCT.out m i
              have htl := HTL.out m
              have hdm : decide ((m : Int) < 100) = true := by rw [decide_eq_true_eq]; omega
              have hc0 : -100 ≤ CN := by omega
              have hc1 : CN ≤ 100 := by omega
              have HX := Lib.hid (And.intro hCN hDR)
              have HBi := Lib.hid hBi
              clear hCN hDR hBi hcb htl
              have HDOm := Lib.hid (HDO.out i m hlm)
              have HDHm := Lib.hid (HDH.out i m hlm hlt)
              generalize ix p m = q at *
              by_cases hq : q = (i : Int)
              · have HQ := Lib.hid (HDHm.out hq)
                have hqi : (q == (i : Int)) = true := by rw [beq_iff_eq]; exact hq
                clear hq HDOm HDHm
                by_cases hz : CN - 1 = 0
                · have HZ2 := Lib.hid (HQ.out.2.1 (by have := HX.out.1; have := HZ.out; omega))
                  have hc2 : CN = 1 := by omega
                  subst hc2
                  clear hz
                  go_wp2
                  go_roundg (100 - (m + 1))
                  case measure => omega
                  case rel => exact ⟨m + 1, by rw [HZ2.out], by rw [HQ.out.1]; have := HX.out.1; go_num, by go_num, by omega, by omega, HBi.out⟩
                · have HZ2 := Lib.hid (HQ.out.2.2 (by have := HX.out.1; have := HZ.out; omega))
                  have hz2' : ((CN - 1) == 0) = false := by rw [beq_eq_false_iff_ne]; exact hz
                  clear hz
                  go_wp2
                  go_roundg (100 - (m + 1))
                  case measure => omega
                  case rel => exact ⟨m + 1, by rw [HZ2.out, HX.out.2], by rw [HQ.out.1, HX.out.1]; go_num, by go_num, by omega, by omega, HBi.out⟩
              · have HQ := Lib.hid (HDOm.out hq)
                have hqi : (q == (i : Int)) = false := by rw [beq_eq_false_iff_ne]; exact hq
                clear hq HDOm HDHm
                go_wp2
                go_roundg (100 - (m + 1))
                case measure => omega
                case rel => exact ⟨m + 1, by rw [HQ.out.1, HX.out.2], by rw [HQ.out.2, HX.out.1], by go_num, by omega, by omega, HBi.out⟩
            · obtain rfl : m = 100 := by omega
              rw [HDA.out] at hDR
              have HBi := Lib.hid hBi
              have HASi := Lib.hid (HAS.out i)
              rw [← hDR] at HASi
              have hal := HAL.out i
              have hz3 := (HBB.out.trans (hBi.mono (HBB.out.size))).size
              clear hCN hDR hBi
              go_wp2_with (refine wp_app_int 32 rfl (.tmp 55) (.tmp 57) rfl Try.underlying32 infoInt _ w2.heap.size _ (da i) DR rfl rfl (HO.out.kept HBi.out) (by omega) hz3 ?_; intro v6 w6 hO6 hB6 hS6)
              go_roundg (n - (i + 1))
              case measure => omega
              case rel => exact ⟨i + 1, by go_num, by omega, by omega, (HBB.out.trs HBi.out).trans hB6, by rw [HASi.out]; exact hO6⟩
        · obtain rfl : n = i := by omega
          rw [HAA.out] at hO
          have HO := Lib.hid hO
          have HBB := Lib.hid hB
          clear hO hB
          go_wp2
          exact H2'.out _ _ _ (HB2.out.trs HBB.out) HO.out
  · have hE : DonE L p = AskE L p := by unfold DonE; rw [if_neg h0]
    have HE := Lib.hid hE
    have HE0 := Lib.hid h0
    have hd : (AskE L p == 0) = false := by rw [beq_eq_false_iff_ne]; exact h0
    have hd2 : (AskE L p != 0) = true := by rw [bne_iff_ne]; exact h0
    clear hr hr2 h0 hE H2
    generalize AskE L p = E at *
    generalize L.length = n at *
    generalize p.length = m at *
    go_enter Try.func52, Try.ntmps52
    go_wp2_with (go_at_call 83; refine HA.out.mono ?_; rintro e w1 ⟨rfl, h1⟩)
    exact H1.out _ _ HE.out HE0.out h1
end Go.Proofs.Ytdafiblnanpiiaa
