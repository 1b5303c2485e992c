/- The walk over alert's search for one more minute of a task. -/
import Derived.Test.YtdafiblnanpiiaaAlHs
namespace Go.Proofs.Ytdafiblnanpiiaa
open Go.RowKit
set_option linter.unusedSimpArgs false
set_option linter.unusedVariables false

abbrev tb_ (L : List (Int × Int × Int)) (k : Nat) : Int := tb L k
section
variable (w0 : World) (A : Option Addr) (c : Nat) (L : List (Int × Int × Int)) (K : Int) (hb tb : Nat) (R : Nat → Nat)
def FindQ (H : Nat → Nat → Bool) (T : Nat → Bool) (i : Nat) (e : Ending) (W' : World) : Prop :=
  Below w0.heap.size w0 W' ∧ ∃ (H' : Nat → Nat → Bool) (T' : Nat → Bool), HallR A L.length c K hb R H' W' ∧ TrR tb T' W' ∧ (∀ m, T m = true → T' m = true) ∧
    ((e = .returned (.bool true) ∧ FoundH L K H T i H') ∨ (e = .returned (.bool false) ∧ H' = H ∧ TriedH L K H T T' ∧ ClT L H T' i))

set_option maxRecDepth 100000 in
set_option maxHeartbeats 16000000 in
theorem find_any (hr : RdT w0 w0.heap.size A L) (hok : okT L) (hK : 1 ≤ K ∧ K ≤ 4) (hR : Rooms w0.heap.size hb tb R) (d : Nat) :
    ∀ (i : Nat) (H : Nat → Nat → Bool) (T : Nat → Bool) (W : World), i < L.length → leftT T ≤ d → Asg L K H → Below w0.heap.size w0 W → HallR A L.length c K hb R H W → TrR tb T W →
      Calls Try.prog 90 #[.pointer (some ⟨hb, 0, none⟩), .int .i64 i, .pointer (some ⟨tb, 0, none⟩)] W (FindQ w0 A c L K hb tb R H T i) := by
  induction d using Nat.strongRecOn with
  | _ d ih =>
  intro i H T W hi hd hA hB0 hH hT
  have IH := Lib.hid ih; clear ih
  have hoki := hok.2 i hi
  have hn12 := hok.1.2
  obtain ⟨bA, oA, rfl, hbA, cc1, cc2, cc3⟩ := hr.at_ hi
  have HCC := Lib.hid (fun W' (h : Below w0.heap.size w0 W') => (show W'.cell? ⟨bA, oA + i * 3, none⟩ = some (.int .i64 (ta L i)) ∧ W'.cell? ⟨bA, oA + i * 3 + 1, none⟩ = some (.int .i64 (tb_ L i)) from
    ⟨(h.cell (p := ⟨bA, oA + i * 3, none⟩) hbA).trans cc1, (h.cell (p := ⟨bA, oA + i * 3 + 1, none⟩) hbA).trans cc2⟩))
  have HQ1 : Hid (∀ W' H' T', Below w0.heap.size w0 W' → HallR (some ⟨bA, oA, none⟩) L.length c K hb R H' W' → TrR tb T' W' → (∀ m, T m = true → T' m = true) → FoundH L K H T i H' → FindQ w0 (some ⟨bA, oA, none⟩) c L K hb tb R H T i (.returned (.bool true)) W') := Lib.hid (fun W' H' T' h1 h2 h3 h4 h5 => ⟨h1, H', T', h2, h3, h4, .inl ⟨rfl, h5⟩⟩)
  have HQ0 : Hid (∀ W' T', Below w0.heap.size w0 W' → HallR (some ⟨bA, oA, none⟩) L.length c K hb R H W' → TrR tb T' W' → TriedH L K H T T' → ClT L H T' i → FindQ w0 (some ⟨bA, oA, none⟩) c L K hb tb R H T i (.returned (.bool false)) W') := Lib.hid (fun W' T' h1 h2 h3 h4 h5 => ⟨h1, H, T', h2, h3, h4.more, .inr ⟨rfl, rfl, h4, h5⟩⟩)
  unfold FindQ at IH
  generalize FindQ w0 (some ⟨bA, oA, none⟩) c L K hb tb R H T i = Q at *
  have HRM := Lib.hid hR
  have HAS := Lib.hid hA
  have HOK := Lib.hid hok
  have HD := Lib.hid hd
  have HIL := Lib.hid hi
  obtain ⟨e1, e2⟩ := HCC.out W hB0
  have e3 := hH.cT
  have hin : (i : Int) < (L.length : Int) := by omega
  have HW := Lib.hid (And.intro hB0 (And.intro hH hT))
  have hX0 : 0 ≤ ta L i := by omega
  have hXY : ta L i < tb_ L i := by have := hoki; unfold tb_; omega
  have hY : tb_ L i ≤ 100 := by have := hoki; unfold tb_; omega
  have HXY : Hid (tb_ L i = Go.Proofs.Ytdafiblnanpiiaa.tb L i) := Lib.hid rfl
  clear hok hoki hR hA hd hB0 hH hT cc1 cc2 cc3 hr
  generalize hX : ta L i = X at *
  generalize hYe : tb_ L i = Y at *
  have HXe := Lib.hid (And.intro hX hYe)
  clear hX hYe hi
  go_enter Try.func90, Try.ntmps90
  go_wp2
  go_loopg [7, 8, 67] 100 (fun k x7 x8 x67 wr => ∃ (m : Nat) (Tc : Nat → Bool), x7 = .int .i64 m ∧ X ≤ m ∧ (m : Int) ≤ Y ∧ 100 - m ≤ k ∧ Below w0.heap.size w0 wr ∧ HallR (some ⟨bA, oA, none⟩) L.length c K hb R H wr ∧ TrR tb Tc wr ∧ Aside (TriedH L K H T Tc ∧ ∀ q : Nat, q < m → X ≤ q → Tc q = true ∨ H i q = true))
  case atStart => exact ⟨X.toNat, T, by rw [Int.toNat_of_nonneg hX0], by omega, by omega, by omega, HW.out.1, HW.out.2.1, HW.out.2.2, (⟨TriedH.refl _ _ _ _, fun q h1 h2 => by omega⟩ : TriedH L K H T T ∧ ∀ q : Nat, q < X.toNat → X ≤ q → T q = true ∨ H i q = true)⟩
  case round =>
    obtain ⟨m, Tc, hx7, hm1, hm2, hk, hB, hH, hT, HA⟩ := hrel
    clear e1 e2 e3
    obtain ⟨f1, f2⟩ := HCC.out wr hB
    have f3 := hH.cT
    obtain ⟨MM, hMM⟩ : ∃ MM : Int, MM = (m : Int) := ⟨_, rfl⟩
    rw [← hMM] at hx7
    subst hx7
    have hM0 : 0 ≤ MM := by omega
    have hM1 : MM.toNat = m := by omega
    by_cases hlt : (m : Int) < Y
    · have hm100 : m < 100 := by omega
      have hlt2 : MM < Y := by omega
      have hM2 : MM < 100 := by omega
      have c1 := hH.cM m hm100
      have c2 := hT.cell m hm100
      have c3 := hT.free m hm100
      have hl := (hH.mp m hm100).lookup (i := i) (by omega)
      cases hTm : Tc m <;> rw [hTm] at c2
      · cases hHm : H i m <;> rw [hHm] at hl
        · have HS1 := Lib.hid (And.intro (hB.setCell (p := ⟨tb, m, none⟩) HRM.out.up.2.1 (.bool true)) (And.intro (hH.set_ HRM.out m (.bool true)) (hT.set_ hm100)))
          have HTm := Lib.hid hTm
          have HHm := Lib.hid hHm
          have HMM := Lib.hid hMM
          have HLT := Lib.hid hlt
          have HM1 := Lib.hid (And.intro hm1 (And.intro hm100 hk))
          clear hTm hHm hMM hB hH hT hlt hm1 hk
          go_wp2
          generalize wr.setCell ⟨tb, m, none⟩ (.bool true) = W1 at *
          have g1 := HS1.out.2.1.cM m HM1.out.2.1
          have g2 := HS1.out.2.1.cK
          obtain ⟨CL, hCL⟩ : ∃ CL : Int, CL = colS L.length H m := ⟨_, rfl⟩
          have hlen : ∀ q, (Builtin.len_ #[86] 3 #[.map (some (R m))]).run Try.prog (W1.drewN q) = .ok (.int .i64 CL) (W1.drewN q) := fun q => by rw [hCL]; exact ((HS1.out.2.1.mp m HM1.out.2.1).drewN q).len 3
          have HCL := Lib.hid hCL
          clear hCL c1 c2 c3 f1 f2 f3 hl
          by_cases hc : CL < K
          · have hc2 : decide (CL < K) = true := by rw [decide_eq_true_eq]; exact hc
            have HC := Lib.hid hc
            clear hc
            go_quiet (fail)
            have HS2 := Lib.hid (And.intro (HS1.out.1.drewsN nq) (And.intro (HS1.out.2.1.drewN nq) (HS1.out.2.2.drewN nq)))
            generalize W1.drewN nq = W2 at *
            have k1 := HS2.out.2.1.cM m HM1.out.2.1
            have hTf : T m = false := by
              cases h : T m
              · rfl
              · have := HA.out.1.more m h; rw [HTm.out] at this; cases this
            have hwin : ta L i ≤ m ∧ (m : Int) < tb_ L i := ⟨by rw [HXe.out.1]; exact HM1.out.1, by rw [HXe.out.2]; exact HLT.out⟩
            have HF := Lib.hid (FoundH.put (k := K) HAS.out HIL.out HM1.out.2.1 hwin.1 hwin.2 (by rw [← HCL.out]; exact HC.out) HHm.out hTf)
            clear hTf hwin hlen g1 g2
            go_wp2_with (refine wpList_putS rfl (.tmp 65) (.tmp 66) (.const (.bool true)) rfl (HS2.out.2.1.mp m HM1.out.2.1) HIL.out (by omega) rfl rfl rfl ?_; intro w3 hS3 hg3)
            exact HQ1.out _ _ _ (HS2.out.1.grown hg3 (HS2.out.1.size) (fun k hk => by injection hk with hk; rw [← hk]; exact HRM.out.up.2.2 m HM1.out.2.1)) (HS2.out.2.1.upd HRM.out HM1.out.2.1 hg3 hS3) (HS2.out.2.2.grown hg3 (HRM.out.tried m HM1.out.2.1)) (fun q hq => setT_more _ _ q (HA.out.1.more q hq)) HF.out
          · have hc2 : decide (CL < K) = false := by rw [decide_eq_false_iff_not]; exact hc
            have HC := Lib.hid hc
            clear hc
            go_quiet (fail)
            have HS2 := Lib.hid (And.intro (HS1.out.1.drewsN nq) (And.intro (HS1.out.2.1.drewN nq) (HS1.out.2.2.drewN nq)))
            generalize W1.drewN nq = W2 at *
            clear hlen g1 g2
            go_wp2
            go_loopg [8, 67] 12 (fun k x8 x67 wi => ∃ (j : Nat) (T2 : Nat → Bool), x67 = .int .i64 j ∧ j ≤ 12 ∧ 12 - j ≤ k ∧ Below w0.heap.size w0 wi ∧ HallR (some ⟨bA, oA, none⟩) L.length c K hb R H wi ∧ TrR tb T2 wi ∧ Aside (TriedH L K H (setT Tc m) T2 ∧ ∀ q : Nat, q < j → q < L.length → H q m = true → ClT L H T2 q))
            case atStart => exact ⟨0, setT Tc m, rfl, by omega, by omega, HS2.out.1, HS2.out.2.1, HS2.out.2.2, (⟨TriedH.refl _ _ _ _, fun q h1 => by omega⟩ : TriedH L K H (setT Tc m) (setT Tc m) ∧ ∀ q : Nat, q < 0 → q < L.length → H q m = true → ClT L H (setT Tc m) q)⟩
            case round =>
              obtain ⟨j, T2, rfl, hj, hkk, hB, hH, hT, HA2⟩ := hrel
              by_cases hlj : j < 12
              · have hdj : decide ((j : Int) < 12) = true := by rw [decide_eq_true_eq]; omega
                have c1 := hH.cM m HM1.out.2.1
                have hl := (hH.mp m HM1.out.2.1).lookup (i := j) (by omega)
                cases hHj : H j m <;> rw [hHj] at hl
                · have HR0 := Lib.hid (And.intro hB (And.intro hH hT))
                  have HHj := Lib.hid hHj
                  clear hHj hB hH hT
                  go_wp2
                  go_roundg (12 - (j + 1))
                  case measure => omega
                  case rel => exact ⟨j + 1, T2, by go_num, by omega, by omega, HR0.out.1, HR0.out.2.1, HR0.out.2.2, (⟨HA2.out.1, fun q h1 h2 h3 => by
                    rcases Nat.lt_succ_iff_lt_or_eq.1 h1 with h | rfl
                    · exact HA2.out.2 q h h2 h3
                    · rw [HHj.out] at h3; cases h3⟩ : TriedH L K H (setT Tc m) T2 ∧ ∀ q : Nat, q < j + 1 → q < L.length → H q m = true → ClT L H T2 q)⟩
                · have hjn := (HAS.out.win j m hHj).1
                  have hl1 := leftT_le (T := T) (T' := Tc) HA.out.1.more
                  have hl2 := leftT_le (T := setT Tc m) (T' := T2) HA2.out.1.more
                  have hl3 := leftT_set (T := Tc) HM1.out.2.1 HTm.out
                  have hl4 := leftT_bd T2
                  have hl5 := HD.out
                  have HF := Lib.hid (IH.out (d - 1) (by omega) j H T2 wr hjn (by omega) HAS.out hB hH hT)
                  have HHj := Lib.hid hHj
                  have HJN := Lib.hid hjn
                  clear hHj hB hH hT hl1 hl2 hl3 hl4 hl5 hjn
                  go_wp2_with (first
                    | (go_at_call 90; refine HF.out.mono ?_; rintro e w5 ⟨hB5, H5, T5, hH5, hT5, hm5, ⟨rfl, hf5⟩ | ⟨rfl, he5, ht5, hc5⟩⟩ <;> ((try (rw [he5] at hH5; clear he5)); have k5 := hH5.cM m HM1.out.2.1; have HS5 := Lib.hid (And.intro hB5 (And.intro hH5 hT5)); have HM5 := Lib.hid hm5; clear hB5 hH5 hT5 hm5))
                    | (refine wpList_delS rfl (.tmp 89) (.tmp 90) rfl (HS5.out.2.1.mp m HM1.out.2.1) HJN.out (by omega) rfl rfl ?_; intro w6 hS6 hg6; have HS6 := Lib.hid (And.intro (HS5.out.1.grown hg6 (HS5.out.1.size) (fun k hk => by injection hk with hk; rw [← hk]; exact HRM.out.up.2.2 m HM1.out.2.1)) (And.intro (HS5.out.2.1.upd HRM.out HM1.out.2.1 hg6 hS6) (HS5.out.2.2.grown hg6 (HRM.out.tried m HM1.out.2.1)))); have k6 := HS6.out.2.1.cM m HM1.out.2.1; clear hS6 hg6)
                    | (refine wpList_putS rfl (.tmp 96) (.tmp 97) (.const (.bool true)) rfl (HS6.out.2.1.mp m HM1.out.2.1) HIL.out (by omega) rfl rfl rfl ?_; intro w7 hS7 hg7))
                  · have hmore : ∀ q, T q = true → T2 q = true := fun q hq => HA2.out.1.more q (setT_more Tc m q (HA.out.1.more q hq))
                    have hTf : T m = false := by
                      cases h : T m
                      · rfl
                      · have := HA.out.1.more m h; rw [HTm.out] at this; cases this
                    have hF7 := FoundH.take hf5 HAS.out HIL.out HM1.out.2.1 (by rw [HXe.out.1]; exact HM1.out.1) (by have := HXe.out.2; unfold tb_ at this; rw [this]; exact HLT.out) HHm.out HHj.out hTf (HA2.out.1.more m (setT_same Tc m)) hmore
                    exact HQ1.out _ _ _ (HS6.out.1.grown hg7 (HS6.out.1.size) (fun k hk => by injection hk with hk; rw [← hk]; exact HRM.out.up.2.2 m HM1.out.2.1)) (HS6.out.2.1.upd HRM.out HM1.out.2.1 hg7 hS7) (HS6.out.2.2.grown hg7 (HRM.out.tried m HM1.out.2.1)) (fun q hq => HM5.out q (hmore q hq)) hF7
                  · have HT5 := Lib.hid (And.intro ht5 hc5)
                    clear ht5 hc5
                    go_roundg (12 - (j + 1))
                    case measure => omega
                    case rel => exact ⟨j + 1, T5, by go_num, by omega, by omega, HS5.out.1, HS5.out.2.1, HS5.out.2.2, (⟨HA2.out.1.trans HT5.out.1, fun q h1 h2 h3 => by
                      rcases Nat.lt_succ_iff_lt_or_eq.1 h1 with h | rfl
                      · exact (HA2.out.2 q h h2 h3).mono HM5.out
                      · exact HT5.out.2⟩ : TriedH L K H (setT Tc m) T5 ∧ ∀ q : Nat, q < j + 1 → q < L.length → H q m = true → ClT L H T5 q)⟩
              · obtain rfl : j = 12 := by omega
                have HR0 := Lib.hid (And.intro hB (And.intro hH hT))
                have HTS := Lib.hid (HA2.out.1.step (by have := HC.out; have := HCL.out; omega) (fun q h1 h2 => HA2.out.2 q (by omega) h1 h2))
                have hkk2 := HM1.out.2.2
                clear hB hH hT
                go_wp2
                go_roundg (100 - (m + 1))
                case measure => omega
                case rel => exact ⟨m + 1, T2, by rw [HMM.out]; go_num, by have := HM1.out.1; omega, by have := HLT.out; omega, by omega, HR0.out.1, HR0.out.2.1, HR0.out.2.2, (⟨HA.out.1.trans HTS.out, fun q h1 h2 => by
                  rcases Nat.lt_succ_iff_lt_or_eq.1 h1 with h | rfl
                  · exact (HA.out.2 q h h2).imp (HTS.out.more q) id
                  · exact .inl (HA2.out.1.more q (setT_same Tc q))⟩ : TriedH L K H T T2 ∧ ∀ q : Nat, q < m + 1 → X ≤ q → T2 q = true ∨ H i q = true)⟩
        · have HR0 := Lib.hid (And.intro hB (And.intro hH hT))
          have HHm := Lib.hid hHm
          have HMM := Lib.hid hMM
          clear hTm hHm hMM hB hH hT c3
          go_wp2
          go_roundg (100 - (m + 1))
          case measure => omega
          case rel => exact ⟨m + 1, Tc, by rw [HMM.out]; go_num, by omega, by omega, by omega, HR0.out.1, HR0.out.2.1, HR0.out.2.2, (⟨HA.out.1, fun q h1 h2 => by
            rcases Nat.lt_succ_iff_lt_or_eq.1 h1 with h | rfl
            · exact HA.out.2 q h h2
            · exact .inr HHm.out⟩ : TriedH L K H T Tc ∧ ∀ q : Nat, q < m + 1 → X ≤ q → Tc q = true ∨ H i q = true)⟩
      · have HR0 := Lib.hid (And.intro hB (And.intro hH hT))
        have HTm := Lib.hid hTm
        have HMM := Lib.hid hMM
        clear hTm hMM hB hH hT c1 c3 hl
        go_wp2
        go_roundg (100 - (m + 1))
        case measure => omega
        case rel => exact ⟨m + 1, Tc, by rw [HMM.out]; go_num, by omega, by omega, by omega, HR0.out.1, HR0.out.2.1, HR0.out.2.2, (⟨HA.out.1, fun q h1 h2 => by
            rcases Nat.lt_succ_iff_lt_or_eq.1 h1 with h | rfl
            · exact HA.out.2 q h h2
            · exact .inl HTm.out⟩ : TriedH L K H T Tc ∧ ∀ q : Nat, q < m + 1 → X ≤ q → Tc q = true ∨ H i q = true)⟩
    · have hYm : MM = Y := by omega
      have hlt2 : decide (MM < Y) = false := by rw [decide_eq_false_iff_not]; omega
      have HE := Lib.hid (HQ0.out wr Tc hB hH hT HA.out.1 (fun q h1 h2 h3 => HA.out.2 q (by have := HXe.out; unfold tb_ at this; omega) (by have := HXe.out; omega)))
      clear hYm hMM hB hH hT
      go_wp2
      exact HE.out
end
end Go.Proofs.Ytdafiblnanpiiaa
