/- Walks over package wave and its reference: Samples, Differences. -/
import Derived.Test.YtkjiancdhaocaaaDoorWvDa
import Derived.Test.YtkjiancdhaocaaaDoorWvJ
namespace Go.Proofs.YtkjiancdhaocaaaDoor
open Go.RowKit Go.Shelf
set_option linter.unusedSimpArgs false
set_option linter.unusedVariables false
attribute [local go_sem] Oper.semAt_some

theorem smpE_no {l : List Int} (h : smpOk l = false) : smpE l = 5 ∧ smpL l = [] := by unfold smpE smpL; rw [h]; exact ⟨rfl, rfl⟩
theorem smpE_ok {l : List Int} (h : smpOk l = true) : smpE l = 0 ∧ smpL l = accL l := by unfold smpE smpL; rw [h]; exact ⟨rfl, rfl⟩
theorem LisE.none {w w' : World} {E : Int} (hb : Below w.heap.size w w') : LisE [] E w (.returned (.tuple #[.slice Option.none 0 0, .int .i64 E])) w' := ⟨hb, Option.none, 0, rfl, .inl rfl⟩
set_option maxRecDepth 100000 in
set_option maxHeartbeats 4000000 in
theorem refSamples_any (A : Option Addr) (c : Nat) (l : List Int) (w : World) (hr : RdI w w.heap.size A l) (hl : l.length ≤ 1000000) :
    Calls Tryd.prog 63 #[.slice A l.length c] w (LisE (smpL l) (smpE l) w) := by
  have HNO : smpOk l = false → Hid (∀ w', Below w.heap.size w w' → LisE (smpL l) (smpE l) w (.returned (.tuple #[.slice none 0 0, .int .i64 5])) w') := fun h => Lib.hid fun w' hb => by rw [(smpE_no h).1, (smpE_no h).2]; exact LisE.none hb
  have HYE : smpOk l = true → Hid (∀ w' A c, Below w.heap.size w w' → RdI w' w'.heap.size A (accL l) → LisE (smpL l) (smpE l) w (.returned (.tuple #[.slice A l.length c, .int .i64 0])) w') := fun h => Lib.hid fun w' A c hb hr => by rw [(smpE_ok h).1, (smpE_ok h).2]; exact ⟨hb, A, c, by rw [accL_len], hr⟩
  have HBAD := Lib.hid (fun i (hi : i < l.length) h => HNO (smpOk_bad hi h))
  have HLONG := Lib.hid (fun (h : 40 < l.length) => HNO (smpOk_long h))
  have HFN := Lib.hid (fun (h : ∀ i, i < l.length → smB (ix l i) = true) (hv : vldW (accL l) = false) => HNO ((smpOk_end h).trans hv))
  have HFY := Lib.hid (fun (h : ∀ i, i < l.length → smB (ix l i) = true) (hv : vldW (accL l) = true) => HYE ((smpOk_end h).trans hv))
  have HVA := Lib.hid (fun A c W h => refValid_any A c (accL l) W h (by rw [accL_len]; omega))
  have hal := accL_len l
  rw [hal] at HVA
  have HAB := Lib.hid (fun i h => accN_bd (l := l) (i := i) h)
  have HAS : Hid (∀ i, accN l (i + 1) = accN l i + ix l i) := Lib.hid fun _ => rfl
  have HA0 : Hid (accN l 0 = 0) := Lib.hid rfl
  have HPS := Lib.hid (accP_succ l)
  have HPL := Lib.hid (accP_len l)
  have HP0 : Hid (accP l 0 = []) := Lib.hid rfl
  have HPE : Hid (accP l l.length = accL l) := Lib.hid rfl
  have HR := Lib.hid hr
  clear hr HNO HYE
  generalize LisE (smpL l) (smpE l) w = R at *
  generalize hva : vldW (accL l) = va at *
  have HVV := Lib.hid hva
  clear hva
  generalize accL l = al at *
  generalize hn : l.length = n at *
  have HN := Lib.hid (And.intro hn hal)
  clear hn hal
  generalize accN l = ac at *
  generalize accP l = ap at *
  go_enter Tryd.func63, Tryd.ntmps63
  go_wp2
  go_loopg [4, 5, 10] n (fun gk u v t wr => ∃ i : Nat, t = .int .i64 i ∧ v = .int .i64 (ac i) ∧ i ≤ n ∧ i ≤ 40 ∧ n - i ≤ gk ∧ (∀ j, j < i → smB (ix l j) = true) ∧ OwnI wr w.heap.size 3 u (ap i) ∧ Below w.heap.size w wr)
  case atStart => exact ⟨0, rfl, by rw [HA0.out], by omega, by omega, by omega, fun j hj => by omega, by rw [HP0.out]; exact OwnI.nil _ _ _, Below.refl _ _⟩
  case round =>
    obtain ⟨i, rfl, rfl, hi, hi40, hgk, hall, hO, hB⟩ := hrel
    by_cases hlt : i < n
    · obtain ⟨b, o, rfl, hb, c1⟩ := HR.out.at_ (k := i) (by rw [HN.out.1]; exact hlt)
      rw [← hB.cell hb] at c1
      have HBADi := Lib.hid (HBAD.out i hlt)
      have hab := HAB.out i hall
      have HASi := Lib.hid (HAS.out i)
      have HPSi := Lib.hid (HPS.out i)
      have hpl := HPL.out i
      have HALL := Lib.hid hall
      have HOO := Lib.hid (And.intro hO hB)
      obtain ⟨As, cs, rfl, -⟩ := hO.rd
      rw [hpl] at HOO ⊢
      have hbz : w.heap.size ≤ wr.heap.size := hB.size
      clear hall hB
      have hsm : smB (ix l i) = (decide (-1023 ≤ ix l i) && decide (ix l i ≤ 1023)) := rfl
      by_cases h1 : ix l i < -1023
      · have HX := HBADi.out (by rw [hsm]; simp; omega)
        clear hsm HBADi hO
        generalize ix l i = x at *
        generalize ac i = y at *
        go_wp2
        exact HX.out _ HOO.out.2
      · by_cases h2 : 1023 < ix l i
        · have HX := HBADi.out (by rw [hsm]; simp; omega)
          clear hsm HBADi hO
          generalize ix l i = x at *
          generalize ac i = y at *
          go_wp2
          exact HX.out _ HOO.out.2
        · by_cases h3 : 40 ≤ i
          · have HX := HLONG.out (by omega)
            have h3I : (40 : Int) ≤ (i : Int) := by omega
            clear hsm HBADi hO
            generalize ix l i = x at *
            generalize ac i = y at *
            go_wp2
            exact HX.out _ HOO.out.2
          · have HSS : Hid (smB (ix l i) = true) := Lib.hid (by rw [hsm]; simp; omega)
            have h3I : ¬ (40 : Int) ≤ (i : Int) := by omega
            clear hsm HBADi
            generalize hxe : ix l i = x at *
            generalize ac i = y at *
            have e1 : IntKind.i64.wrap (y + x) = y + x := IntWalk.i64_in _ (by omega)
            have e2 : wrap64 (y + x) = y + x := IntWalk.wrap64_in _ (by omega)
            have HXE := Lib.hid hxe
            clear hxe hab hO
            go_wp2_with (first
              | (refine wp_app_int 22 rfl (.tmp 28) (.tmp 30) rfl Tryd.underlying22 infoInt _ w.heap.size _ (ap i) (y + x) rfl rfl HOO.out.1 (by omega) hbz ?_; intro v6 w6 hO6 hB6 hS6))
            go_roundg (n - (i + 1))
            case measure => omega
            case rel => exact ⟨i + 1, by go_num, by rw [HASi.out], by omega, by omega, by omega, fun j hj => by
              by_cases e : j = i
              · subst e; rw [HXE.out]; exact HSS.out
              · exact HALL.out j (by omega), by rw [← HPSi.out, HASi.out]; exact hO6, HOO.out.2.trans hB6⟩
    · obtain rfl : i = n := by omega
      have HFN1 := HFN.out hall
      have HFY1 := HFY.out hall
      rw [HPE.out] at hO
      obtain ⟨A1, c1, rfl, hr1⟩ := hO.rd
      have HVx := Lib.hid (HVA.out A1 c1 _ hr1)
      have HB1 := Lib.hid hB
      have HR1 := Lib.hid hr1
      have hl2 := HN.out.2
      clear hall hO hB hr1
      rw [hl2]
      generalize ac i = y at *
      cases va
      · have HX := HFN1 rfl
        clear HFN1 HFY1
        go_wp2_with (go_at_call 6; refine HVx.out.mono ?_; rintro e w2 ⟨rfl, h2⟩)
        exact HX.out _ (HB1.out.trans (h2.mono HB1.out.size))
      · have HX := HFY1 rfl
        clear HFN1 HFY1
        go_wp2_with (go_at_call 6; refine HVx.out.mono ?_; rintro e w2 ⟨rfl, h2⟩)
        exact HX.out _ _ _ (HB1.out.trans (h2.mono HB1.out.size)) (HR1.out.on h2)
/-! ### Differences -/
def difE (s : List Int) : List Int := if vldW s = true then difs s else []
end Go.Proofs.YtkjiancdhaocaaaDoor
