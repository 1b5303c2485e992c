/- Walks over package wave and its reference: the reference's text of a plan; wide words. -/
import Derived.Test.YtkjiancdhaocaaaDoorWvU
import Derived.Test.YtkjiancdhaocaaaDoorLibRep
import Derived.Test.YtkjiancdhaocaaaDoorLib2
namespace Go.Proofs.YtkjiancdhaocaaaDoor
open Go.RowKit Go.Shelf
set_option linter.unusedSimpArgs false
set_option linter.unusedVariables false
attribute [local go_sem] Oper.semAt_some

theorem okB_wid {k : Nat} (hk : k < 5) : okB (wid k) = true := by
  unfold okB
  rw [kxI_yes hk]
  simp
def wideT (s : List Int) : Tx := if vldW s then plT (difs s) (fun _ => 4) s.length else []
theorem wide_can {s : List Int} (h : vldW s = true) {i : Nat} (hi : i < s.length) : canD 11 (ix (difs s) i) = true := by
  have := difA_small h hi
  rw [difs_ix s hi]
  unfold canD
  rw [btw_iff, show hf 11 = 1024 by decide]
  omega
set_option maxHeartbeats 4000000 in
theorem Wide_any (A : Option Addr) (c : Nat) (s : List Int) (w : World) (hr : RdI w w.heap.size A s) (hl : s.length ≤ 1000000) :
    Calls Tryd.prog 9 #[.slice A s.length c] w fun e w' => e = .returned (.tuple #[.string ⟨(wideT s).toArray⟩, .int .i64 (encE s)]) ∧ Below w.heap.size w w' := by
  have HV := Lib.hid (Valid_any A c s w hr hl)
  unfold wideT encE
  cases hv : vldW s
  · rw [hv] at HV
    clear hr
    go_enter Tryd.func9, Tryd.ntmps9
    go_wp2_with (go_at_call 20; refine HV.out.mono ?_; rintro e w1 ⟨rfl, h1⟩)
    go_ret2
    exact ⟨by simp, h1⟩
  · obtain ⟨hv1, hv2, hv3⟩ := vldW_iff.1 hv
    have hdl := difs_len s
    have HD := Lib.hid (fun w1 (h1 : Below w.heap.size w w1) => differences_any A c s w1 (hr.on h1) (by omega) hv3)
    have HP := Lib.hid (fun A c A2 c2 W h h2 => plan_any A c A2 c2 (difs s) (List.replicate s.length 11) (fun _ => 4) W h h2 (by omega) (by omega) (by simp [hdl]) (fun i hi => ⟨by decide, by rw [hdl] at hi; simp [ix, hi, wid], wide_can hv (by omega)⟩))
    have HRP := Lib.hid (fun b c W h => Repeat_any b c 11 s.length hv1 (by omega) W h)
    unfold LisQ at HD
    rw [hv] at HV
    rw [hdl] at HD HP
    clear hr hv hdl
    generalize difs s = ds at *
    generalize s.length = n at *
    go_enter Tryd.func9, Tryd.ntmps9
    go_wp2_with (first
      | (go_at_call 20; refine HV.out.mono ?_; rintro e w1 ⟨rfl, h1⟩)
      | (go_at_call 23; refine (HD.out _ h1).mono ?_; rintro e w2 ⟨h2, A2, c2, rfl, hr2⟩; replace hr2 := Lib.hid hr2)
      | (go_at_call 24; refine (HRP.out _ _ _ ((Box.new _ _ _).cell 0)).mono ?_; rintro e w3 ⟨rfl, hbx, h3⟩; rw [World.size_alloc] at hbx; replace hbx := Lib.hid hbx)
      | (go_at_call 22; refine (HP.out _ _ _ _ _ (hr2.out.on ((below_alloc _ _).trs h3)) hbx.out.rd).mono ?_; rintro e w4 ⟨rfl, h4⟩))
    go_ret2
    exact ⟨by simp, (h1.trs (h2.trs ((below_alloc _ _).trs h3))).trs h4⟩
end Go.Proofs.YtkjiancdhaocaaaDoor
