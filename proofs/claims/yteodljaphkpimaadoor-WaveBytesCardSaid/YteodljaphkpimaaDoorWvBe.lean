/- Walks over the reference of chapter wave: Unpack. -/
import Derived.Test.YteodljaphkpimaaDoorWvBd
namespace Go.Proofs.YteodljaphkpimaaDoor
open Go.RowKit Go.Shelf
set_option linter.unusedSimpArgs false
set_option linter.unusedVariables false
attribute [local go_sem] Oper.semAt_some

theorem upT_succ (l : List Int) (i : Nat) : upT l (i + 1) = upT l i ++ [upB l i] := by
  unfold upT
  rw [List.range_succ, List.map_append]
  rfl
set_option maxRecDepth 100000 in
set_option maxHeartbeats 4000000 in
theorem refUnpack_any (A : Option Addr) (c : Nat) (l : List Int) (w : World) (hr : RdY w w.heap.size A l) (hl : l.length ≤ 1000000) (hby : ∀ k, k < l.length → 0 ≤ ix l k ∧ ix l k ≤ 255) :
    Calls Tryd.prog 33 #[.slice A l.length c] w (TxE (upR l) (upE l) w) := by
  have HNO : ¬ (2 ≤ l.length ∧ l.length ≤ 127 ∧ upN l ≤ 8 * (l.length - 2) ∧ packL (upT l (upN l)) = l) → Hid (∀ w', Below w.heap.size w w' → TxE (upR l) (upE l) w (.returned (.tuple #[.string ⟨#[]⟩, .int .i64 3])) w') := fun h => Lib.hid fun w' hb => ⟨by rw [(up_none h).1, (up_none h).2], hb⟩
  have HYE : (2 ≤ l.length ∧ l.length ≤ 127 ∧ upN l ≤ 8 * (l.length - 2) ∧ packL (upT l (upN l)) = l) → Hid (∀ w', Below w.heap.size w w' → TxE (upR l) (upE l) w (.returned (.tuple #[.string ⟨(upT l (upN l)).toArray⟩, .int .i64 0])) w') := fun h => Lib.hid fun w' hb => ⟨by rw [(up_some h).1, (up_some h).2], hb⟩
  generalize TxE (upR l) (upE l) w = R at *
  by_cases h2 : 2 ≤ l.length
  · have HR := Lib.hid hr
    have HBY := Lib.hid hby
    obtain ⟨b, o, rfl, hb, d0⟩ := hr.at_ (k := 0) (by omega)
    obtain ⟨b', o', he, -, d1⟩ := hr.at_ (k := 1) (by omega)
    cases he
    rw [Nat.add_zero] at d0
    have hx := hby 0 (by omega)
    have hy := hby 1 (by omega)
    have eN : ix l 0 * 256 + ix l 1 = (upN l : Int) := by unfold upN; omega
    by_cases hn : upN l ≤ 1000
    · by_cases hlen : l.length = 2 + nB (upN l)
      · have hin : 2 ≤ l.length ∧ l.length ≤ 127 ∧ upN l ≤ 8 * (l.length - 2) := by unfold nB at hlen; omega
        have HIN := Lib.hid hin
        have HNO2 := Lib.hid HNO
        have HYE2 := Lib.hid HYE
        have HT0 : Hid (upT l 0 = []) := Lib.hid rfl
        have HTS := Lib.hid (upT_succ l)
        have HTL := Lib.hid (upT_len l)
        have HPK := Lib.hid (fun W => refpack_any (upT l (upN l)) W (upT_bits _ _) (by rw [upT_len]; exact hn))
        unfold LisY at HPK
        have HEQ := Lib.hid (fun A c A2 c2 W h1 h2 h3 h4 => SameBytesY_any A c A2 c2 (packL (upT l (upN l))) l W h1 h2 h3 h4)
        have HPL := Lib.hid (packL_len (upT l (upN l)))
        rw [upT_len] at HPL
        have HUB : Hid (∀ i, upB l i = if ix l (2 + i / 8) / 2 ^ (7 - i % 8) % 2 = 1 then 49 else 48) := Lib.hid fun _ => rfl
        clear HNO HYE hr hby
        generalize ix l 0 = x at *
        generalize ix l 1 = y at *
        obtain ⟨tf, htf⟩ : ∃ tf, tf = upT l := ⟨_, rfl⟩
        rw [← htf] at HPK HEQ HPL HNO2 HYE2 HT0 HTS HTL
        clear htf
        generalize upN l = n at *
        have h2i : ¬ (l.length : Int) < 2 := by omega
        have hni : ¬ (1000 : Int) < (n : Int) := by omega
        have h0m : (0 : Int) < (l.length : Int) := by omega
        have h1m : (1 : Int) < (l.length : Int) := by omega
        have hq : ((n : Int) + 7) / 8 = (nB n : Int) := by unfold nB; omega
        have hq2 : ((n : Int) + 7).tdiv 8 = (nB n : Int) := by rw [Int.tdiv_eq_ediv_of_nonneg (by omega)]; exact hq
        have hlI : (l.length : Int) = 2 + (nB n : Int) := by omega
        have HBYl := Lib.hid (fun i (h : i < n) => (show 2 + i / 8 < l.length by unfold nB at hlen; omega))
        generalize nB n = nb at *
        generalize hml : l.length = m at *
        have HML := Lib.hid hml
        have hnb : nb ≤ 200 := by omega
        clear hml hin
        have hn65 : (0 : Int) ≤ (n : Int) ∧ (n : Int) ≤ 65535 := by omega
        have h2i' : ¬ 2 + (nb : Int) < 2 := by omega
        have hne : ((m : Int) == 2 + (nb : Int)) = true := by rw [beq_iff_eq]; exact hlI
        subst hlen
        clear hlI hne
        have hd1 : decide ((1000 : Int) < (n : Int)) = false := decide_eq_false hni
        have hd2 : decide (2 + (nb : Int) < 2) = false := decide_eq_false h2i'
        go_enter Tryd.func33, Tryd.ntmps33
        go_wp2
        go_quiet (fail)
        go_wp2
        clear d0 d1 hx hy eN hq hq2
        go_loopg [5, 32] n (fun gk u5 u wr => ∃ i : Nat, u = .int .i64 i ∧ u5 = .string ⟨(tf i).toArray⟩ ∧ i ≤ n ∧ n - i ≤ gk ∧ Below w.heap.size w wr)
        case atStart => exact ⟨0, rfl, by rw [HT0.out], by omega, by omega, (Below.refl _ _).drewsN _⟩
        case round =>
          obtain ⟨i, rfl, rfl, hi, hgk, hB⟩ := hrel
          by_cases hlt : i < n
          · have hin : (i : Int) < (n : Int) := by omega
            have hi0 : (0 : Int) ≤ (i : Int) := by omega
            have hJ : (i : Int) / 8 = ((i / 8 : Nat) : Int) := by omega
            have hJt : (i : Int).tdiv 8 = ((i / 8 : Nat) : Int) := by rw [Int.tdiv_eq_ediv_of_nonneg hi0]; exact hJ
            have hR : (i : Int) % 8 = ((i % 8 : Nat) : Int) := by omega
            have hRl : i % 8 < 8 := by omega
            have hRt : (i : Int).tmod 8 = ((i % 8 : Nat) : Int) := by rw [Int.tmod_eq_emod_of_nonneg hi0]; exact hR
            have hJm := HBYl.out i hlt
            obtain ⟨b', o', he, hbb, dj⟩ := HR.out.at_ (k := 2 + i / 8) (by rw [HML.out]; exact hJm)
            cases he
            have hxb := HBY.out _ hJm
            rw [← hB.cell (p := ⟨b, o + (2 + i / 8), none⟩) hbb] at dj
            obtain ⟨h81, h82, h83⟩ := hf8 (i % 8) hRl
            have HH := Lib.hid (fun W => refHalf_any (8 - i % 8) W (by omega))
            have hsub : (8 : Int) - ((i % 8 : Nat) : Int) = ((8 - i % 8 : Nat) : Int) := by omega
            have hup := HUB.out i
            have HTN := Lib.hid (HTS.out i)
            have htl := HTL.out i
            have HB := Lib.hid (And.intro hB (And.intro hlt hgk))
            rw [h81] at HH
            clear hB hbb hR hgk
            generalize ix l (2 + i / 8) = x at *
            generalize (2 : Int) ^ (7 - i % 8) = h at *
            generalize hub : upB l i = ub at *
            generalize i / 8 = J at *
            generalize i % 8 = R at *
            generalize 8 - R = S at *
            have hpM : 2 + (J : Int) < 2 + (nb : Int) := by omega
            have hp0 : (0 : Int) ≤ 2 + (J : Int) := by omega
            have hd : x.tdiv h = x / h := Int.tdiv_eq_ediv_of_nonneg hxb.1
            have hq0 : 0 ≤ x / h := Int.ediv_nonneg hxb.1 (by omega)
            have hq1 : x / h ≤ x := Int.ediv_le_self _ hxb.1
            have hh0 : ¬ h = 0 := by omega
            have hq2 : (x / h).tmod 2 = x / h % 2 := Int.tmod_eq_emod_of_nonneg hq0
            generalize hqe : x / h = q at *
            have hbb2 : ¬ 9223372036854775807 < (tf i).length + 1 := by omega
            have et : (2 + (J : Int)).toNat = 2 + J := by omega
            obtain ⟨e1, e3, e5, e7⟩ : IntKind.i64.wrap (J : Int) = J ∧ IntKind.i64.wrap (2 + (J : Int)) = 2 + (J : Int) ∧ IntKind.i64.wrap (8 - (R : Int)) = S ∧ IntKind.i64.wrap q = q := ⟨IntWalk.i64_in _ (by omega), IntWalk.i64_in _ (by omega), by rw [IntWalk.i64_in _ (by omega)]; exact hsub, IntWalk.i64_in _ (by omega)⟩
            by_cases hc : q % 2 = 1
            · skip
              have hr1 : q % 2 = 1 := hc
              have hub' : ub = 49 := by rw [hup]; rw [if_pos hc]
              subst hub'
              clear hup hc
              generalize tf i = Y at *
              have a1 : (⟨Y.toArray⟩ : ByteArray) ++ ⟨#[49]⟩ = ⟨(Y ++ [49]).toArray⟩ := ba_app Y [49]
              go_wp2
              go_quiet ((go_at_call 61; exact Calls.quiet_of_same (HH.out _)))
              go_wp2
              go_roundg (n - (i + 1))
              case measure => have := HB.out; omega
              case rel => exact ⟨i + 1, by go_num, by rw [HTN.out], by have := HB.out; omega, by have := HB.out; omega, HB.out.1.drewsN _⟩
            · skip
              have hr1 : q % 2 = 0 := (Int.emod_two_eq q).resolve_right hc
              have hub' : ub = 48 := by rw [hup]; rw [if_neg hc]
              subst hub'
              clear hup hc
              generalize tf i = Y at *
              have a1 : (⟨Y.toArray⟩ : ByteArray) ++ ⟨#[48]⟩ = ⟨(Y ++ [48]).toArray⟩ := ba_app Y [48]
              go_wp2
              go_quiet ((go_at_call 61; exact Calls.quiet_of_same (HH.out _)))
              go_wp2
              go_roundg (n - (i + 1))
              case measure => have := HB.out; omega
              case rel => exact ⟨i + 1, by go_num, by rw [HTN.out], by have := HB.out; omega, by have := HB.out; omega, HB.out.1.drewsN _⟩
          · obtain rfl : i = n := by omega
            have HB := Lib.hid hB
            have HR3 := Lib.hid (hB.size)
            have hlp : (packL (tf i)).length ≤ 1000000 := by rw [HPL.out]; omega
            rw [HPL.out] at HEQ hlp HPK
            have HLP := Lib.hid hlp
            clear hB hlp
            by_cases hP : packL (tf i) = l
            · have HK := HYE2.out ⟨HIN.out.1, HIN.out.2.1, HIN.out.2.2, hP⟩
              rw [decide_eq_true hP] at HEQ
              clear hP HNO2 HYE2 HTS HT0 HTL
              generalize packL (tf i) = pl at *
              generalize tf i = Y at *
              go_wp2_with (first
                | (go_at_call 67; refine (HPK.out _).mono ?_; rintro e w3 ⟨h3, A3, c3, rfl, hr3⟩; have HB3 := Lib.hid (And.intro hr3 h3); have HR4 := Lib.hid (HR.out.le (HB.out.trans (h3.mono HR3.out)) (Nat.le_trans HR3.out h3.size)); clear hr3)
                | (go_at_call 31; refine (HEQ.out _ _ _ _ _ HB3.out.1 HR4.out HLP.out hl).mono ?_; rintro e w4 ⟨rfl, h4⟩))
              exact HK.out _ (HB.out.trans ((h3.trs h4).mono HR3.out))
            · have HK := HNO2.out (fun h => hP h.2.2.2)
              rw [decide_eq_false hP] at HEQ
              clear hP HNO2 HYE2 HTS HT0 HTL
              generalize packL (tf i) = pl at *
              generalize tf i = Y at *
              go_wp2_with (first
                | (go_at_call 67; refine (HPK.out _).mono ?_; rintro e w3 ⟨h3, A3, c3, rfl, hr3⟩; have HB3 := Lib.hid (And.intro hr3 h3); have HR4 := Lib.hid (HR.out.le (HB.out.trans (h3.mono HR3.out)) (Nat.le_trans HR3.out h3.size)); clear hr3)
                | (go_at_call 31; refine (HEQ.out _ _ _ _ _ HB3.out.1 HR4.out HLP.out hl).mono ?_; rintro e w4 ⟨rfl, h4⟩))
              exact HK.out _ (HB.out.trans ((h3.trs h4).mono HR3.out))
      · have HK := HNO (fun h => hlen (by have := congrArg List.length h.2.2.2; rw [packL_len, upT_len] at this; exact this.symm))
        clear HNO HYE hr hby
        generalize ix l 0 = x at *
        generalize ix l 1 = y at *
        generalize upN l = n at *
        have h2i : ¬ (l.length : Int) < 2 := by omega
        have hni : ¬ (1000 : Int) < (n : Int) := by omega
        have h0m : (0 : Int) < (l.length : Int) := by omega
        have h1m : (1 : Int) < (l.length : Int) := by omega
        have hq : ((n : Int) + 7) / 8 = (nB n : Int) := by unfold nB; omega
        have hq2 : ((n : Int) + 7).tdiv 8 = (nB n : Int) := by rw [Int.tdiv_eq_ediv_of_nonneg (by omega)]; exact hq
        have hnb : nB n ≤ 200 := by unfold nB; omega
        generalize nB n = nb at *
        generalize l.length = m at *
        have hne : ((m : Int) == 2 + (nb : Int)) = false := by rw [beq_eq_false_iff_ne]; omega
        have hne2 : ¬ (m : Int) = 2 + (nb : Int) := by omega
        have hne3 : ((m : Int) != 2 + (nb : Int)) = true := by rw [bne_iff_ne]; exact hne2
        clear hlen
        have hn65 : (0 : Int) ≤ (n : Int) ∧ (n : Int) ≤ 65535 := by omega
        go_enter Tryd.func33, Tryd.ntmps33
        go_wp2
        go_quiet (fail)
        go_wp2
        exact HK.out _ ((Below.refl _ _).drewsN _)
    · have HK := HNO (fun h => hn (by have := h.2.1; have := h.2.2.1; omega))
      clear HNO HYE hr hby
      generalize ix l 0 = x at *
      generalize ix l 1 = y at *
      generalize upN l = n at *
      have h2i : ¬ (l.length : Int) < 2 := by omega
      have hni : (1000 : Int) < (n : Int) := by omega
      have h0m : (0 : Int) < (l.length : Int) := by omega
      have h1m : (1 : Int) < (l.length : Int) := by omega
      generalize l.length = m at *
      have hn65 : (0 : Int) ≤ (n : Int) ∧ (n : Int) ≤ 65535 := by omega
      go_enter Tryd.func33, Tryd.ntmps33
      go_wp2
      go_quiet (fail)
      go_wp2
      exact HK.out _ ((Below.refl _ _).drewsN _)
  · have HK := HNO (fun h => h2 h.1)
    clear HNO HYE hr hby
    have h2i : (l.length : Int) < 2 := by omega
    generalize l.length = m at *
    go_enter Tryd.func33, Tryd.ntmps33
    go_wp2
    exact HK.out _ (Below.refl _ _)
end Go.Proofs.YteodljaphkpimaaDoor
