/- Walks over the reference of chapter wave: Plan. -/
import Derived.Test.YteodljaphkpimaaWvX
namespace Go.Proofs.Yteodljaphkpimaa
open Go.RowKit Go.Shelf
set_option linter.unusedSimpArgs false
set_option linter.unusedVariables false
attribute [local go_sem] Oper.semAt_some

set_option maxRecDepth 100000 in
set_option maxHeartbeats 4000000 in
theorem refPlan_any (A : Option Addr) (c : Nat) (A2 : Option Addr) (c2 : Nat) (s ws : List Int) (w : World) (hr : RdI w w.heap.size A s) (hr2 : RdI w w.heap.size A2 ws) (hl : s.length ≤ 1000000) (hl2 : ws.length ≤ 1000000) :
    Calls Try.prog 12 #[.slice A s.length c, .slice A2 ws.length c2] w (PlanQ s ws w) := by
  have HV := Lib.hid (refValid_any A c s w hr hl)
  have hE : planE s ws = if vldW s = true then (if ws.length = s.length ∧ badP ws = false then (if noD s ws = true then 5 else if 1000 < (plW s ws).length then 4 else 0) else 2) else 30 := rfl
  have HNO : ∀ x, planE s ws = x → x ≠ 0 → Hid (∀ w', Below w.heap.size w w' → PlanQ s ws w (.returned (.tuple #[.string ⟨#[]⟩, .int .i64 x])) w') := fun x h h0 => PlanQ.bad h h0
  have HYE : planE s ws = 0 → Hid (∀ w', Below w.heap.size w w' → PlanQ s ws w (.returned (.tuple #[.string ⟨(plW s ws).toArray⟩, .int .i64 0])) w') := PlanQ.ok
  generalize PlanQ s ws w = R at *
  cases hv : vldW s
  · rw [hv] at HV hE
    have HX := HNO 30 hE (by omega)
    clear hr hr2 HNO HYE hE
    generalize s.length = n at *
    generalize ws.length = n2 at *
    go_enter Try.func12, Try.ntmps12
    go_wp2_with (go_at_call 9; refine HV.out.mono ?_; rintro e w1 ⟨rfl, h1⟩)
    exact HX.out _ h1
  · rw [hv] at HV hE
    by_cases hlen : ws.length = s.length
    · obtain ⟨hv1, hv2, hv3⟩ := vldW_iff.1 hv
      have hdl := difs_len s
      have HD := Lib.hid (fun w1 (h1 : Below w.heap.size w w1) => refDifferences_any A c s w1 (hr.on h1) hv1 (by omega) hv3)
      have HR2 := Lib.hid hr2
      have HKD := Lib.hid (fun v W => refKind_any v W)
      have hB1 : (∀ i, i < ws.length → okB (ix ws i) = true) → badP ws = false := fun h => anyF_no.2 fun i hi => by simp [h i hi]
      have hB2 : ∀ i, i < ws.length → okB (ix ws i) = false → badP ws = true := fun i hi h => anyF_hit (p := fun k => !(okB (ix ws k))) hi (by simp [h])
      have hEB : badP ws = true → planE s ws = 2 := fun h => by rw [hE, if_pos rfl, if_neg (by rw [h]; simp)]
      have hEG : badP ws = false → planE s ws = if noD s ws = true then 5 else if 1000 < (plW s ws).length then 4 else 0 := fun h => by rw [hE, if_pos rfl, if_pos ⟨hlen, h⟩]
      have HKK := Lib.hid (fun (h : badP ws = false) i (hi : i < ws.length) => badP_no h hi)
      have HND : Hid ((∀ i, i < s.length → canD (wid (kfW ws i)) (ix (difs s) i) = true) → noD s ws = false) := Lib.hid (fun h => anyF_no.2 fun i hi => by simp [h i hi])
      have HNB : Hid (∀ i, i < s.length → canD (wid (kfW ws i)) (ix (difs s) i) = false → noD s ws = true) := Lib.hid (fun i hi h => anyF_hit (p := fun i => !(canD (wid (kfW ws i)) (ix (difs s) i))) hi (by simp [h]))
      have hplw : plT (difs s) (kfW ws) (difs s).length = plW s ws := by rw [hdl]; rfl
      have HP := fun A c A2 c2 W h h2 (hb : badP ws = false) (hk : ∀ i, i < (difs s).length → canD (wid (kfW ws i)) (ix (difs s) i) = true) => refPlanT_any A c A2 c2 (difs s) ws (kfW ws) W h h2 (by omega) (by omega) (fun i hi => ⟨(badP_no hb (by omega)).1, (badP_no hb (by omega)).2, hk i hi⟩)
      have HCN := Lib.hid (fun k d W => refCan_any (wid k) d W (wid_ok k))
      have HPW : badP ws = false → (plW s ws).length ≤ 71000 := fun h => by
        have := plT_le (ds := difs s) (kf := kfW ws) (n := s.length) (fun i hi => (badP_no h (by omega)).1) (Nat.le_refl _)
        unfold plW
        omega
      have HDL := Lib.hid hdl
      unfold LisQ at HD
      rw [hplw] at HP
      rw [hdl] at HD HP
      have HPP := Lib.hid HP
      have HBG := Lib.hid (And.intro hB1 (And.intro hB2 (And.intro hEB (And.intro hEG (And.intro HNO (And.intro HYE HPW))))))
      clear hr hr2 HP hdl hplw hE HNO HYE hv hv3 hB1 hB2 hEB hEG HPW
      generalize difs s = ds at *
      generalize plW s ws = pw at *
      generalize noD s ws = nd at *
      generalize kfW ws = kf at *
      generalize badP ws = bp at *
      generalize planE s ws = pe at *
      generalize hn2 : ws.length = n2 at *
      subst hlen
      generalize hn : s.length = n at *
      have HN2 := Lib.hid hn2
      clear hn hn2
      go_enter Try.func12, Try.ntmps12
      go_wp2_with (first
        | (go_at_call 9; refine HV.out.mono ?_; rintro e w1 ⟨rfl, h1⟩))
      have H1 := Lib.hid h1
      clear h1
      go_loopg [24] n (fun gk t wr => ∃ i : Nat, t = .int .i64 i ∧ i ≤ n ∧ n - i ≤ gk ∧ (∀ j, j < i → okB (ix ws j) = true) ∧ wr = w1)
      case atStart => exact ⟨0, rfl, by omega, by omega, fun j hj => by omega, rfl⟩
      case round =>
        obtain ⟨i, rfl, hi, hgk, hall, rfl⟩ := hrel
        by_cases hlt : i < n
        · obtain ⟨b2, o2, rfl, hb2, d2⟩ := HR2.out.at_ (k := i) (by rw [HN2.out]; exact hlt)
          replace d2 := (H1.out.cell (p := ⟨b2, o2 + i, none⟩) hb2).trans d2
          have HKi := Lib.hid (fun W => HKD.out (ix ws i) W)
          have HAL := Lib.hid hall
          have hin : (i : Int) < (n : Int) := by omega
          have hi0 : (0 : Int) ≤ (i : Int) := by omega
          clear hall hb2
          cases hc : okB (ix ws i)
          · rw [hc] at HKi
            have HX := HBG.out.2.2.2.2.1 2 (HBG.out.2.2.1 (HBG.out.2.1 i hlt hc)) (by omega)
            clear hc
            generalize (if false = true then kxI (ix ws i) else 0) = kz at *
            generalize ix ws i = v at *
            go_wp2_with (go_at_call 30; refine (HKi.out _).mono ?_; rintro e w4 ⟨rfl, rfl⟩)
            exact HX.out _ H1.out
          · rw [hc] at HKi
            have HC1 := Lib.hid hc
            clear hc
            generalize (if true = true then kxI (ix ws i) else 0) = kz at *
            generalize hvv : ix ws i = v at *
            have HVV := Lib.hid hvv
            clear hvv
            go_wp2_with (go_at_call 30; refine (HKi.out _).mono ?_; rintro e w4 ⟨rfl, rfl⟩)
            go_roundg (n - (i + 1))
            case measure => omega
            case rel => exact ⟨i + 1, by go_num, by omega, by omega, fun j hj => by
              by_cases e : j = i
              · subst e; rw [HVV.out]; exact HC1.out
              · exact HAL.out j (by omega), rfl⟩
        · obtain rfl : i = n := by omega
          have hbp := HBG.out.1 hall
          have HKK2 := Lib.hid (HKK.out hbp)
          have HEE := Lib.hid (And.intro (HBG.out.2.2.2.1 hbp) (And.intro HBG.out.2.2.2.2.1 HBG.out.2.2.2.2.2.1))
          have hpll := HBG.out.2.2.2.2.2.2 hbp
          have HPP2 := Lib.hid (fun A c A2 c2 W h h2 hk => HPP.out A c A2 c2 W h h2 hbp hk)
          clear hall hbp HBG HKK HPP
          go_wp2_with (first
            | (go_at_call 31; refine (HD.out _ H1.out).mono ?_; rintro e w3 ⟨h3, A3, c3, rfl, hr3⟩; replace hr3 := Lib.hid hr3))
          have H3 := Lib.hid (H1.out.trs h3)
          clear h3
          go_loopg [40] i (fun gk t wq => ∃ m : Nat, t = .int .i64 m ∧ m ≤ i ∧ i - m ≤ gk ∧ (∀ j, j < m → canD (wid (kf j)) (ix ds j) = true) ∧ wq = w3)
          case atStart => exact ⟨0, rfl, by omega, by omega, fun j hj => by omega, rfl⟩
          case round =>
            obtain ⟨m, rfl, hm, hgk, hall, rfl⟩ := hrel
            by_cases hlt : m < i
            · obtain ⟨b, o, rfl, hb1, d1⟩ := hr3.out.at_ (k := m) (by rw [HDL.out]; exact hlt)
              obtain ⟨b2, o2, rfl, hb2, d2⟩ := HR2.out.at_ (k := m) (by rw [HN2.out]; exact hlt)
              replace d2 := (H3.out.cell (p := ⟨b2, o2 + m, none⟩) hb2).trans d2
              rw [(HKK2.out m hlt).2] at d2
              have HHi := Lib.hid (fun W => HCN.out (kf m) (ix ds m) W)
              have HNBi := Lib.hid (HNB.out m hlt)
              have HAL := Lib.hid hall
              have hin : (m : Int) < (i : Int) := by omega
              have hi0 : (0 : Int) ≤ (m : Int) := by omega
              clear hall hb1 hb2
              cases hc : canD (wid (kf m)) (ix ds m)
              · rw [hc] at HHi
                have hnd := HNBi.out hc
                have HX := HEE.out.2.1 5 (by rw [HEE.out.1, if_pos hnd]) (by omega)
                clear hc hnd HNBi
                generalize ix ds m = d at *
                generalize kf m = k at *
                go_wp2_with (go_at_call 32; refine (HHi.out _).mono ?_; rintro e w4 ⟨rfl, rfl⟩)
                exact HX.out _ H3.out
              · rw [hc] at HHi
                have HC1 := Lib.hid hc
                clear hc HNBi
                generalize hd : ix ds m = d at *
                generalize hk : kf m = k at *
                have HE := Lib.hid (And.intro hd hk)
                clear hd hk
                go_wp2_with (go_at_call 32; refine (HHi.out _).mono ?_; rintro e w4 ⟨rfl, rfl⟩)
                go_roundg (i - (m + 1))
                case measure => omega
                case rel => exact ⟨m + 1, by go_num, by omega, by omega, fun j hj => by
                  by_cases e : j = m
                  · subst e; rw [HE.out.1, HE.out.2]; exact HC1.out
                  · exact HAL.out j (by omega), rfl⟩
            · obtain rfl : m = i := by omega
              have hnd := HND.out hall
              have HPi := Lib.hid (fun A2 c2 h => HPP2.out _ c3 A2 c2 _ hr3.out h hall)
              have hr2w := Lib.hid (HR2.out.on H3.out)
              clear hall
              by_cases hbig : 1000 < pw.length
              · have HX := HEE.out.2.1 4 (by rw [HEE.out.1, if_neg (by rw [hnd]; decide), if_pos hbig]) (by omega)
                clear hnd
                go_wp2_with (go_at_call 33; refine (HPi.out _ _ hr2w.out).mono ?_; rintro e w4 ⟨rfl, h4⟩)
                exact HX.out _ (H3.out.trs h4)
              · have HX := HEE.out.2.2 (by rw [HEE.out.1, if_neg (by rw [hnd]; decide), if_neg hbig])
                clear hnd
                go_wp2_with (go_at_call 33; refine (HPi.out _ _ hr2w.out).mono ?_; rintro e w4 ⟨rfl, h4⟩)
                exact HX.out _ (H3.out.trs h4)
    · have hlenI : ((ws.length : Int) == (s.length : Int)) = false := by rw [beq_eq_false_iff_ne]; omega
      have hlenN : ¬ ws.length = s.length := hlen
      have HX := HNO 2 (by rw [hE]; simp [hlen]) (by omega)
      clear hr hr2 HNO HYE hE
      generalize s.length = n at *
      generalize ws.length = n2 at *
      go_enter Try.func12, Try.ntmps12
      go_wp2_with (first
        | (go_at_call 9; refine HV.out.mono ?_; rintro e w1 ⟨rfl, h1⟩))
      exact HX.out _ h1
end Go.Proofs.Yteodljaphkpimaa
