/- Walks over package wave and its reference: Plan. -/
import Derived.Test.YtkjiancdhaocaaaDoorWvV
namespace Go.Proofs.YtkjiancdhaocaaaDoor
open Go.RowKit Go.Shelf
set_option linter.unusedSimpArgs false
set_option linter.unusedVariables false
attribute [local go_sem] Oper.semAt_some

def kfW (ws : List Int) (i : Nat) : Nat := (kxI (ix ws i)).toNat
def badP (ws : List Int) : Bool := anyF (fun k => !(okB (ix ws k))) ws.length
def noD (s ws : List Int) : Bool := anyF (fun i => !(canD (wid (kfW ws i)) (ix (difs s) i))) s.length
def plW (s ws : List Int) : Tx := plT (difs s) (kfW ws) s.length
def planE (s ws : List Int) : Int := if vldW s = true then (if ws.length = s.length ∧ badP ws = false then (if noD s ws = true then 5 else if 1000 < (plW s ws).length then 4 else 0) else 2) else 30
def planX (s ws : List Int) : Tx := if planE s ws = 0 then plW s ws else []
theorem badP_no {ws : List Int} (h : badP ws = false) {i : Nat} (hi : i < ws.length) : kfW ws i < 5 ∧ ix ws i = (wid (kfW ws i) : Int) := by
  have := anyF_no.1 h i hi
  rw [Bool.not_eq_false'] at this
  rcases okB_cases (ix ws i) with ⟨-, k, hk, e⟩ | ⟨h1, -⟩
  · unfold kfW
    rw [e, kxI_yes hk, Int.toNat_natCast]
    exact ⟨hk, rfl⟩
  · rw [h1] at this; cases this
theorem anyF_hit {p : Nat → Bool} {n i : Nat} (hi : i < n) (h : p i = true) : anyF p n = true := by
  cases ha : anyF p n with
  | true => rfl
  | false => rw [anyF_no.1 ha i hi] at h; cases h
set_option maxHeartbeats 1000000 in
theorem plan1_any (v : Int) (w : World) : Calls Tryd.prog 30 #[.int .i64 v] w fun e w' => e = .returned (.bool (!(okB v))) ∧ Below w.heap.size w w' := by
  have HX := Lib.hid (fun W => index_any v W)
  have HO : Hid ((!(okB v)) = decide (kxI v < 0)) := Lib.hid (by unfold okB; rw [← decide_not]; simp)
  rw [HO.out]
  generalize kxI v = r at *
  go_enter Tryd.func30, Tryd.ntmps30
  go_wp2_with (go_at_call 31; refine (HX.out _).mono ?_; rintro e w1 ⟨rfl, h1⟩)
  go_ret
  exact ⟨rfl, h1⟩
/-- the post of Plan -/
def PlanQ (s ws : List Int) (w : World) (e : Ending) (w' : World) : Prop := e = .returned (.tuple #[.string ⟨(planX s ws).toArray⟩, .int .i64 (planE s ws)]) ∧ Below w.heap.size w w'
theorem PlanQ.bad {s ws : List Int} {w : World} {x : Int} (h : planE s ws = x) (h0 : x ≠ 0) : Hid (∀ w', Below w.heap.size w w' → PlanQ s ws w (.returned (.tuple #[.string ⟨#[]⟩, .int .i64 x])) w') := Lib.hid fun w' hb => by
  unfold PlanQ planX
  rw [h, if_neg h0]
  exact ⟨rfl, hb⟩
theorem PlanQ.ok {s ws : List Int} {w : World} (h : planE s ws = 0) : Hid (∀ w', Below w.heap.size w w' → PlanQ s ws w (.returned (.tuple #[.string ⟨(plW s ws).toArray⟩, .int .i64 0])) w') := Lib.hid fun w' hb => by
  unfold PlanQ planX
  rw [h, if_pos rfl]
  exact ⟨rfl, hb⟩
set_option maxRecDepth 100000 in
set_option maxHeartbeats 4000000 in
theorem Plan_any (A : Option Addr) (c : Nat) (A2 : Option Addr) (c2 : Nat) (s ws : List Int) (w : World) (hr : RdI w w.heap.size A s) (hr2 : RdI w w.heap.size A2 ws) (hl : s.length ≤ 1000000) (hl2 : ws.length ≤ 1000000) :
    Calls Tryd.prog 11 #[.slice A s.length c, .slice A2 ws.length c2] w (PlanQ s ws w) := by
  have HV := Lib.hid (Valid_any A c s w hr hl)
  have HC := Lib.hid (fun w1 (h1 : Below w.heap.size w w1) => ContainsFuncI_any 30 #[] A2 c2 ws (fun v => !(okB v)) w1 (hr2.on h1) hl2 (enters_of Tryd.func30 (by kernel_rfl) rfl) (fun W i _ _ => plan1_any _ W))
  rw [show anyF (fun k => !(okB (ix ws k))) ws.length = badP ws from rfl] at HC
  have hE : planE s ws = if vldW s = true then (if ws.length = s.length ∧ badP ws = false then (if noD s ws = true then 5 else if 1000 < (plW s ws).length then 4 else 0) else 2) else 30 := rfl
  have HNO : ∀ x, planE s ws = x → x ≠ 0 → Hid (∀ w', Below w.heap.size w w' → PlanQ s ws w (.returned (.tuple #[.string ⟨#[]⟩, .int .i64 x])) w') := fun x h h0 => PlanQ.bad h h0
  have HYE : planE s ws = 0 → Hid (∀ w', Below w.heap.size w w' → PlanQ s ws w (.returned (.tuple #[.string ⟨(plW s ws).toArray⟩, .int .i64 0])) w') := PlanQ.ok
  generalize PlanQ s ws w = R at *
  cases hv : vldW s
  · rw [hv] at HV hE
    have HX := HNO 30 hE (by omega)
    clear hr hr2 HNO HYE hE HC
    generalize s.length = n at *
    generalize ws.length = n2 at *
    go_enter Tryd.func11, Tryd.ntmps11
    go_wp2_with (go_at_call 20; refine HV.out.mono ?_; rintro e w1 ⟨rfl, h1⟩)
    exact HX.out _ h1
  · rw [hv] at HV hE
    by_cases hlen : ws.length = s.length
    · have hlenI : ((ws.length : Int) == (s.length : Int)) = true := by rw [hlen]; simp
      cases hb : badP ws
      · have hkk := fun i (hi : i < ws.length) => badP_no hb hi
        rw [hb] at HC hE
        rw [if_pos rfl, if_pos ⟨hlen, rfl⟩] at hE
        obtain ⟨hv1, hv2, hv3⟩ := vldW_iff.1 hv
        have hdl := difs_len s
        have HD := Lib.hid (fun w1 (h1 : Below w.heap.size w w1) => differences_any A c s w1 (hr.on h1) (by omega) hv3)
        have HR2 := Lib.hid hr2
        have HP := fun A c A2 c2 W h h2 (hk : ∀ i, i < (difs s).length → canD (wid (kfW ws i)) (ix (difs s) i) = true) => plan_any A c A2 c2 (difs s) ws (kfW ws) W h h2 (by omega) (by omega) (by omega) (fun i hi => ⟨(hkk i (by omega)).1, (hkk i (by omega)).2, hk i hi⟩)
        have HKK := Lib.hid hkk
        have HND : Hid ((∀ i, i < s.length → canD (wid (kfW ws i)) (ix (difs s) i) = true) → noD s ws = false) := Lib.hid (fun h => anyF_no.2 fun i hi => by simp [h i hi])
        have HNB : Hid (∀ i, i < s.length → canD (wid (kfW ws i)) (ix (difs s) i) = false → noD s ws = true) := Lib.hid (fun i hi h => anyF_hit (p := fun i => !(canD (wid (kfW ws i)) (ix (difs s) i))) hi (by simp [h]))
        have HDL := Lib.hid hdl
        have hplw : plT (difs s) (kfW ws) (difs s).length = plW s ws := by rw [hdl]; rfl
        have HH := Lib.hid (fun k d W => has_any (wid k) d W (wid_ok k))
        have hpll : (plW s ws).length ≤ 71000 := by
          have := plT_le (ds := difs s) (kf := kfW ws) (n := s.length) (fun i hi => (hkk i (by omega)).1) (Nat.le_refl _)
          unfold plW
          omega
        unfold LisQ at HD
        rw [hplw] at HP
        rw [hdl] at HD HP
        have HPP := Lib.hid HP
        have HEE := Lib.hid (And.intro hE (And.intro HNO HYE))
        clear hr hr2 hkk HP hdl hplw hE HNO HYE hv hv3
        generalize difs s = ds at *
        generalize plW s ws = pw at *
        generalize noD s ws = nd at *
        generalize kfW ws = kf at *
        generalize hn2 : ws.length = n2 at *
        subst hlen
        generalize hn : s.length = n at *
        have HN2 := Lib.hid hn2
        clear hn hn2
        go_enter Tryd.func11, Tryd.ntmps11
        go_wp2_with (first
          | (go_at_call 20; refine HV.out.mono ?_; rintro e w1 ⟨rfl, h1⟩)
          | (go_at_call 29; refine (HC.out _ h1).mono ?_; rintro e w2 ⟨rfl, h2⟩)
          | (go_at_call 23; refine (HD.out _ (h1.trs h2)).mono ?_; rintro e w3 ⟨h3, A3, c3, rfl, hr3⟩; replace hr3 := Lib.hid hr3))
        have H3 := Lib.hid ((h1.trs h2).trs h3)
        clear h1 h2 h3
        go_loopg [28] n (fun gk t wr => ∃ i : Nat, t = .int .i64 i ∧ i ≤ n ∧ n - i ≤ gk ∧ (∀ j, j < i → canD (wid (kf j)) (ix ds j) = true) ∧ wr = w3)
        case atStart => exact ⟨0, rfl, by omega, by omega, fun j hj => by omega, rfl⟩
        case round =>
          obtain ⟨i, rfl, hi, hgk, hall, rfl⟩ := hrel
          by_cases hlt : i < n
          · obtain ⟨b, o, rfl, hb1, d1⟩ := hr3.out.at_ (k := i) (by rw [HDL.out]; exact hlt)
            obtain ⟨b2, o2, rfl, hb2, d2⟩ := HR2.out.at_ (k := i) (by rw [HN2.out]; exact hlt)
            replace d2 := (H3.out.cell (p := ⟨b2, o2 + i, none⟩) hb2).trans d2
            rw [(HKK.out i hlt).2] at d2
            have HHi := Lib.hid (fun W => HH.out (kf i) (ix ds i) W)
            have HNBi := Lib.hid (HNB.out i hlt)
            have HAL := Lib.hid hall
            have hin : (i : Int) < (n : Int) := by omega
            have hi0 : (0 : Int) ≤ (i : Int) := by omega
            clear hall hb1 hb2
            cases hc : canD (wid (kf i)) (ix ds i)
            · rw [hc] at HHi
              have hnd := HNBi.out hc
              have HX := HEE.out.2.1 5 (by rw [HEE.out.1, if_pos hnd]) (by omega)
              clear hc hnd HNBi
              generalize ix ds i = d at *
              generalize kf i = k at *
              go_wp2_with (go_at_call 28; refine (HHi.out _).mono ?_; rintro e w4 ⟨rfl, rfl⟩)
              exact HX.out _ H3.out
            · rw [hc] at HHi
              have HC1 := Lib.hid hc
              clear hc HNBi
              generalize hd : ix ds i = d at *
              generalize hk : kf i = k at *
              have HE := Lib.hid (And.intro hd hk)
              clear hd hk
              go_wp2_with (go_at_call 28; refine (HHi.out _).mono ?_; rintro e w4 ⟨rfl, rfl⟩)
              go_roundg (n - (i + 1))
              case measure => omega
              case rel => exact ⟨i + 1, by go_num, by omega, by omega, fun j hj => by
                by_cases e : j = i
                · subst e; rw [HE.out.1, HE.out.2]; exact HC1.out
                · exact HAL.out j (by omega), rfl⟩
          · obtain rfl : i = n := by omega
            have hnd := HND.out hall
            have HPi := Lib.hid (fun A2 c2 h => HPP.out _ c3 A2 c2 wr hr3.out h hall)
            have hr2w := Lib.hid (HR2.out.on H3.out)
            clear hall
            by_cases hbig : 1000 < pw.length
            · have HX := HEE.out.2.1 4 (by rw [HEE.out.1, if_neg (by rw [hnd]; decide), if_pos hbig]) (by omega)
              clear hnd
              go_wp2_with (go_at_call 22; refine (HPi.out _ _ hr2w.out).mono ?_; rintro e w4 ⟨rfl, h4⟩)
              exact HX.out _ (H3.out.trs h4)
            · have HX := HEE.out.2.2 (by rw [HEE.out.1, if_neg (by rw [hnd]; decide), if_neg hbig])
              clear hnd
              go_wp2_with (go_at_call 22; refine (HPi.out _ _ hr2w.out).mono ?_; rintro e w4 ⟨rfl, h4⟩)
              exact HX.out _ (H3.out.trs h4)
      · rw [hb] at HC hE
        have HX := HNO 2 (by rw [hE]; simp) (by omega)
        clear hr hr2 HNO HYE hE
        generalize ws.length = n2 at *
        subst hlen
        generalize s.length = n at *
        go_enter Tryd.func11, Tryd.ntmps11
        go_wp2_with (first
          | (go_at_call 20; refine HV.out.mono ?_; rintro e w1 ⟨rfl, h1⟩)
          | (go_at_call 29; refine (HC.out _ h1).mono ?_; rintro e w2 ⟨rfl, h2⟩))
        exact HX.out _ (h1.trs h2)
    · have hlenI : ((ws.length : Int) == (s.length : Int)) = false := by rw [beq_eq_false_iff_ne]; omega
      have hlenN : ¬ ws.length = s.length := hlen
      have HX := HNO 2 (by rw [hE]; simp [hlen]) (by omega)
      clear hr hr2 HNO HYE hE
      generalize s.length = n at *
      generalize ws.length = n2 at *
      go_enter Tryd.func11, Tryd.ntmps11
      go_wp2_with (first
        | (go_at_call 20; refine HV.out.mono ?_; rintro e w1 ⟨rfl, h1⟩))
      exact HX.out _ h1
end Go.Proofs.YtkjiancdhaocaaaDoor
