/- Walks over the reference of chapter wave: Quiet. -/
import Derived.Test.YteodljaphkpimaaDoorWvK
import Derived.Test.YteodljaphkpimaaDoorWvQc
namespace Go.Proofs.YteodljaphkpimaaDoor
open Go.RowKit Go.Shelf
set_option linter.unusedSimpArgs false
set_option linter.unusedVariables false
attribute [local go_sem] Oper.semAt_some

def qN (l : List Int) (m : Int) (i : Nat) : List Int := (List.range i).map (qv l m)
theorem qN_len (l : List Int) (m : Int) (i : Nat) : (qN l m i).length = i := by simp [qN]
theorem qN_ix (l : List Int) (m : Int) {i k : Nat} (hk : k < i) : ix (qN l m i) k = qv l m k := by simp [ix, qN, hk]
theorem qN_succ (l : List Int) (m : Int) (i : Nat) : qN l m (i + 1) = qN l m i ++ [qv l m i] := by
  unfold qN
  rw [List.range_succ, List.map_append]
  rfl
set_option maxRecDepth 100000 in
set_option maxHeartbeats 4000000 in
theorem refQuiet_any (A : Option Addr) (c : Nat) (l : List Int) (m : Int) (w : World) (hr : RdI w w.heap.size A l) (hl : l.length ≤ 1000000) :
    Calls Tryd.prog 35 #[.slice A l.length c, .int .i64 m] w (LisE (quL l m) (QuE l m) w) := by
  have HV := Lib.hid (refValid_any A c l w hr hl)
  have HNO : ∀ x, QuE l m = x → x ≠ 0 → Hid (∀ w', Below w.heap.size w w' → LisE (quL l m) (QuE l m) w (.returned (.tuple #[.slice none 0 0, .int .i64 x])) w') := fun x h h0 => Lib.hid (fun w' hb => by
    unfold quL
    rw [h, if_neg h0]
    exact ⟨hb, none, 0, rfl, .inl rfl⟩)
  have HYE : QuE l m = 0 → Hid (∀ w' A c, Below w.heap.size w w' → RdI w' w'.heap.size A (quI l m) → LisE (quL l m) (QuE l m) w (.returned (.tuple #[.slice A l.length c, .int .i64 0])) w') := fun h => Lib.hid (fun w' A c hb hr => by
    unfold quL
    rw [h, if_pos rfl]
    exact ⟨hb, A, c, by rw [quI_len], hr⟩)
  have hE : QuE l m = if vldW l then (if btw 0 m 1023 then 0 else 2) else 30 := rfl
  generalize LisE (quL l m) (QuE l m) w = R at *
  cases hv : vldW l
  · rw [hv] at HV hE
    have HK := HNO 30 (by rw [hE]; rfl) (by decide)
    clear HNO HYE hE hr
    go_enter Tryd.func35, Tryd.ntmps35
    go_wp2_with (go_at_call 21; refine HV.out.mono ?_; rintro e w1 ⟨rfl, h1⟩)
    exact HK.out _ h1
  · rw [hv] at HV hE
    by_cases h0 : m < 0
    · have HK := HNO 2 (by rw [hE]; unfold btw; rw [decide_eq_false (show ¬ 0 ≤ m by omega)]; rfl) (by decide)
      clear HNO HYE hE hr
      go_enter Tryd.func35, Tryd.ntmps35
      go_wp2_with (go_at_call 21; refine HV.out.mono ?_; rintro e w1 ⟨rfl, h1⟩)
      exact HK.out _ h1
    · by_cases h1023 : 1023 < m
      · have HK := HNO 2 (by rw [hE]; unfold btw; rw [decide_eq_false (show ¬ m ≤ 1023 by omega)]; simp) (by decide)
        clear HNO HYE hE hr
        go_enter Tryd.func35, Tryd.ntmps35
        go_wp2_with (go_at_call 21; refine HV.out.mono ?_; rintro e w1 ⟨rfl, h1⟩)
        exact HK.out _ h1
      · have HK := HYE (by rw [hE]; unfold btw; rw [decide_eq_true (show 0 ≤ m by omega), decide_eq_true (show m ≤ 1023 by omega)]; rfl)
        clear HNO HYE hE
        obtain ⟨hv1, hv2, hv3⟩ := vldW_iff.1 hv
        have HR := Lib.hid hr
        have HV3 := Lib.hid hv3
        have HQV := Lib.hid (qv_small hv3 m)
        have HQ0 : Hid (qN l m 0 = []) := Lib.hid rfl
        have HQS := Lib.hid (qN_succ l m)
        have HQL := Lib.hid (qN_len l m)
        have HQX := Lib.hid (fun i k (h : k < i) => qN_ix l m h)
        have HQD : Hid (qN l m l.length = quI l m) := Lib.hid rfl
        have HQ1 : Hid (qv l m 0 = ix l 0) := Lib.hid rfl
        have HQ2 : Hid (∀ k, qv l m (k + 1) = if btw (-m) (ix l (k + 1) - qv l m k) m then qv l m k else ix l (k + 1)) := Lib.hid fun _ => rfl
        clear hv hv3 hr
        obtain ⟨qf, hqf⟩ : ∃ qf, qf = qN l m := ⟨_, rfl⟩
        obtain ⟨qg, hqg⟩ : ∃ qg, qg = qv l m := ⟨_, rfl⟩
        rw [← hqf] at HQ0 HQS HQL HQX HQD
        rw [← hqg] at HQS HQX HQ1 HQ2 HQV
        clear hqf hqg
        generalize quI l m = ql at *
        generalize hn : l.length = n at *
        have HN := Lib.hid hn
        clear hn
        go_enter Tryd.func35, Tryd.ntmps35
        go_wp2_with (go_at_call 21; refine HV.out.mono ?_; rintro e w1 ⟨rfl, h1⟩)
        have HB1 := Lib.hid h1
        clear h1
        go_loopg [6, 20] n (fun gk u6 u wr => ∃ i : Nat, u = .int .i64 i ∧ i ≤ n ∧ n - i ≤ gk ∧ OwnI wr w.heap.size 3 u6 (qf i) ∧ Below w.heap.size w wr)
        case atStart => exact ⟨0, rfl, by omega, by omega, by rw [HQ0.out]; exact OwnI.nil _ _ _, HB1.out⟩
        case round =>
          obtain ⟨i, rfl, hi, hgk, hO, hB⟩ := hrel
          by_cases hlt : i < n
          · obtain ⟨b, o, rfl, hb, d0⟩ := HR.out.at_ (k := i) (by rw [HN.out]; exact hlt)
            rw [← hB.cell (p := ⟨b, o + i, none⟩) hb] at d0
            have hx := HV3.out i hlt
            have hin : (i : Int) < (n : Int) := by omega
            have hi0 : (0 : Int) ≤ (i : Int) := by omega
            have hbz := hB.size
            have HII := Lib.hid (And.intro hlt hgk)
            have HBB := Lib.hid hB
            have HQSi := Lib.hid (HQS.out i)
            have hql := HQL.out i
            clear hB hgk
            by_cases hz : i = 0
            · subst hz
              rw [HQ1.out] at HQSi
              have HOO := Lib.hid hO
              clear hO
              rw [Nat.add_zero] at d0
              generalize ix l 0 = x at *
              generalize qf 0 = L1 at *
              go_wp2
              go_quiet (fail)
              go_wp2_with (refine wp_app_int 22 rfl (.tmp 51) (.tmp 53) rfl Tryd.underlying22 infoInt _ w.heap.size _ L1 x rfl rfl (HOO.out.kept ((Below.refl _ _).drewsN _)) (by omega) hbz ?_; intro v6 w6 hO6 hB6 hsp; clear hsp; have hBF := (HBB.out.drewsN nq).trans hB6)
              go_roundg (n - 1)
              case measure => have := HII.out; omega
              case rel => exact ⟨1, rfl, by omega, by have := HII.out; omega, by rw [HQSi.out]; exact hO6, hBF⟩
            · obtain ⟨j, hj⟩ : ∃ j, i = j + 1 := ⟨i - 1, by omega⟩
              have hqv : qg i = if btw (-m) (ix l i - qg j) m = true then qg j else ix l i := by rw [hj, HQ2.out]
              have hy := HQV.out j (by omega)
              have hqx := HQX.out i j (by omega)
              rcases hO.form with ⟨-, hnil⟩ | ⟨g, cc, rfl, hgB, hgl, -, -, hcell, hfr⟩
              · rw [hnil] at hql; exact absurd hql.symm hz
              have hcj := hcell j (by rw [hql]; omega)
              rw [hqx] at hcj
              rw [hql] at hO
              rw [hql]
              have HOO := Lib.hid hO
              have hij : (i : Int) - 1 = (j : Int) := by omega
              have hji : (j : Int) < (i : Int) := by omega
              have hj0 : (0 : Int) ≤ (j : Int) := by omega
              have hi1 : (0 : Int) < (i : Int) := by omega
              have hi2 : decide ((0 : Int) < (i : Int)) = true := decide_eq_true hi1
              have hi3 : decide (0 < i) = true := decide_eq_true (by omega)
              clear hO hcell hfr hqx hj hz
              generalize qg i = qi at *
              generalize qg j = y at *
              generalize ix l i = x at *
              generalize qf i = L1 at *
              by_cases hbt : btw (-m) (x - y) m = true
              · rw [if_pos hbt] at hqv
                subst hqv
                unfold btw at hbt
                simp only [Bool.and_eq_true, decide_eq_true_eq] at hbt
                have hmx : max (x - qi) (qi - x) ≤ m := by omega
                obtain ⟨e1, e2⟩ : IntKind.i64.wrap (x - qi) = x - qi ∧ IntKind.i64.wrap (qi - x) = qi - x := ⟨IntWalk.i64_in _ (by omega), IntWalk.i64_in _ (by omega)⟩
                go_wp2
                go_quiet (fail)
                go_wp2_with (refine wp_app_int 22 rfl (.tmp 51) (.tmp 53) rfl Tryd.underlying22 infoInt _ w.heap.size _ L1 qi rfl rfl (HOO.out.kept ((Below.refl _ _).drewsN _)) (by omega) hbz ?_; intro v6 w6 hO6 hB6 hsp; clear hsp; have hBF := (HBB.out.drewsN nq).trans hB6)
                go_roundg (n - (i + 1))
                case measure => have := HII.out; omega
                case rel => exact ⟨i + 1, by go_num, by have := HII.out; omega, by have := HII.out; omega, by rw [HQSi.out]; exact hO6, hBF⟩
              · rw [if_neg hbt] at hqv
                subst hqv
                unfold btw at hbt
                simp only [Bool.and_eq_true, decide_eq_true_eq] at hbt
                have hmx : ¬ max (qi - y) (y - qi) ≤ m := by omega
                obtain ⟨e1, e2⟩ : IntKind.i64.wrap (qi - y) = qi - y ∧ IntKind.i64.wrap (y - qi) = y - qi := ⟨IntWalk.i64_in _ (by omega), IntWalk.i64_in _ (by omega)⟩
                go_wp2
                go_quiet (fail)
                go_wp2_with (refine wp_app_int 22 rfl (.tmp 51) (.tmp 53) rfl Tryd.underlying22 infoInt _ w.heap.size _ L1 qi rfl rfl (HOO.out.kept ((Below.refl _ _).drewsN _)) (by omega) hbz ?_; intro v6 w6 hO6 hB6 hsp; clear hsp; have hBF := (HBB.out.drewsN nq).trans hB6)
                go_roundg (n - (i + 1))
                case measure => have := HII.out; omega
                case rel => exact ⟨i + 1, by go_num, by have := HII.out; omega, by have := HII.out; omega, by rw [HQSi.out]; exact hO6, hBF⟩
          · obtain rfl : i = n := by omega
            rw [HQD.out] at hO
            obtain ⟨A1, c1, rfl, hr1⟩ := hO.rd
            have HB := Lib.hid hB
            have HR1 := Lib.hid hr1
            have hql := HQL.out i
            rw [HQD.out] at hql
            rw [hql]
            clear hB hO hr1 hql
            go_wp2
            exact HK.out _ _ _ HB.out HR1.out
end Go.Proofs.YteodljaphkpimaaDoor
