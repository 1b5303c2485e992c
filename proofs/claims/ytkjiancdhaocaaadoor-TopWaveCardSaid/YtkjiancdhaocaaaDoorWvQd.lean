/- Walks over package wave and its reference: known, decode, Decode, Widths, Changes, IsText. -/
import Derived.Test.YtkjiancdhaocaaaDoorWvQc
import Derived.Test.YtkjiancdhaocaaaDoorWvDb
import Derived.Test.YtkjiancdhaocaaaDoorWvEq
namespace Go.Proofs.YtkjiancdhaocaaaDoor
open Go.RowKit Go.Shelf
set_option linter.unusedSimpArgs false
set_option linter.unusedVariables false
attribute [local go_sem] Oper.semAt_some

/-- what a text says, or nothing -/
def deV (t : Tx) : Option (List Int × List Int × Nat) := if vbB t = true then deO t else none
def deE (t : Tx) : Int := if vbB t = true then (if (deO t).isSome = true then 0 else 3) else 31
def dD (t : Tx) : List Int := match deV t with | some r => r.1 | none => []
def dW (t : Tx) : List Int := match deV t with | some r => r.2.1 | none => []
def dC (t : Tx) : Nat := match deV t with | some r => r.2.2 | none => 0
theorem de_cases (t : Tx) : (vbB t = false ∧ deE t = 31 ∧ dD t = [] ∧ dW t = [] ∧ dC t = 0) ∨ (vbB t = true ∧ deO t = none ∧ deE t = 3 ∧ dD t = [] ∧ dW t = [] ∧ dC t = 0) ∨ (∃ d ws m, vbB t = true ∧ deO t = some (d, ws, m) ∧ deE t = 0 ∧ dD t = d ∧ dW t = ws ∧ dC t = m) := by
  unfold dD dW dC deE deV
  cases hv : vbB t
  · exact .inl ⟨rfl, rfl, rfl, rfl, rfl⟩
  · cases ho : deO t with
    | none => exact .inr (.inl ⟨rfl, rfl, rfl, rfl, rfl, rfl⟩)
    | some r => exact .inr (.inr ⟨r.1, r.2.1, r.2.2, rfl, rfl, rfl, rfl, rfl, rfl⟩)
theorem vbB_iff {t : Tx} : vbB t = true ↔ t.length ≤ 1000 ∧ bitsB t = true := by unfold vbB; simp
theorem deO_ok {t : Tx} {d ws : List Int} {m : Nat} (h : deO t = some (d, ws, m)) : smpOk d = true ∧ rdF false t 2 = some (d, ws, m, false) := by
  unfold deO at h
  cases hr : rdF false t 2 with
  | none => rw [hr] at h; cases h
  | some r =>
    obtain ⟨d', ws', m', lo⟩ := r
    rw [hr] at h
    simp only at h
    split at h
    · rename_i hc
      injection h with h
      injection h with h1 h
      injection h with h2 h3
      subst h1; subst h2; subst h3
      exact ⟨hc.1, by rw [hc.2]⟩
    · cases h
/-- what known hands back -/
def KnQ (t : Tx) (w : World) (e : Ending) (w' : World) : Prop := Below w.heap.size w w' ∧ ∃ A c A2 c2, e = .returned (.tuple #[.agg #[.slice A (dD t).length c, .slice A2 (dW t).length c2, .int .i64 (dC t : Nat)], .int .i64 (deE t)]) ∧ OwnI w' w.heap.size 3 (.slice A (dD t).length c) (dD t) ∧ OwnI w' w.heap.size 3 (.slice A2 (dW t).length c2) (dW t)
set_option maxRecDepth 100000 in
set_option maxHeartbeats 4000000 in
theorem known_any (t : Tx) (w : World) (h : t.length ≤ 1000000) : Calls Tryd.prog 33 #[.string ⟨t.toArray⟩] w (KnQ t w) := by
  have HV := Lib.hid (fun W => ValidBits_any t W h)
  have hb2 := below_alloc w (.cells #[.slice none 0 0, .slice none 0 0, .int .i64 0] 55)
  have hx2 := Box.new w 55 #[.slice none 0 0, .slice none 0 0, .int .i64 0]
  have HW := Lib.hid (And.intro hb2 hx2)
  clear hb2 hx2
  rcases de_cases t with ⟨hv, hE, hd, hw, hc⟩ | ⟨hv, ho, hE, hd, hw, hc⟩ | ⟨d, ws, m, hv, ho, hE, hd, hw, hc⟩
  · have HK : Hid (∀ w', Below w.heap.size w w' → KnQ t w (.returned (.tuple #[.agg #[.slice none 0 0, .slice none 0 0, .int .i64 0], .int .i64 31])) w') := Lib.hid fun w' hb => ⟨hb, none, 0, none, 0, by rw [hE, hd, hw, hc]; rfl, by rw [hd]; exact OwnI.nil _ _ _, by rw [hw]; exact OwnI.nil _ _ _⟩
    rw [hv] at HV
    clear hE hd hw hc hv
    generalize KnQ t w = R at *
    go_enter Tryd.func33, Tryd.ntmps33
    go_upto_region 1 with (fail)
    generalize hw2 : w.alloc (.cells #[.slice none 0 0, .slice none 0 0, .int .i64 0] 55) = w2 at *
    have hlt := HW.out.2.lt
    generalize w.heap.size = b2 at *
    go_wp2_with (go_at_call 35; refine (HV.out _).mono ?_; rintro e w3 ⟨rfl, h3⟩; have y2 := HW.out.2.on h3; have r0 := y2.cell 0; have r1 := y2.cell 1; have r2 := y2.cell 2; have g0 := y2.frozen 0; have g1 := y2.frozen 1; have g2 := y2.frozen 2)
    obtain ⟨wf, hwf⟩ : ∃ wf, wf = (((w3.setCell ⟨b2, 0, none⟩ (.slice none 0 0)).setCell ⟨b2, 1, none⟩ (.slice none 0 0)).setCell ⟨b2, 2, none⟩ (.int .i64 0)) := ⟨_, rfl⟩
    rw [← hwf]
    have BX := ((y2.set_ 0 (.slice none 0 0)).set_ 1 (.slice none 0 0)).set_ 2 (.int .i64 0)
    rw [← hwf] at BX
    have e0 : wf.cell? ⟨b2, 0, none⟩ = some (.slice none 0 0) := BX.cell 0
    have e1 : wf.cell? ⟨b2, 1, none⟩ = some (.slice none 0 0) := BX.cell 1
    have e2 : wf.cell? ⟨b2, 2, none⟩ = some (.int .i64 0) := BX.cell 2
    have HBF : Below b2 w wf := by rw [hwf]; exact (((HW.out.1.trans (h3.mono (by omega))).setCell (p := ⟨b2, 0, none⟩) (Nat.le_refl _) _).setCell (p := ⟨b2, 1, none⟩) (Nat.le_refl _) _).setCell (p := ⟨b2, 2, none⟩) (Nat.le_refl _) _
    refine bodyPost_ret (v := .tuple #[.agg #[.slice none 0 0, .slice none 0 0, .int .i64 0], .int .i64 31]) (by simp [results, Tryd.results33, go_sem, e0, e1, e2]) rfl (HK.out _ HBF)
  · have HK : Hid (∀ w', Below w.heap.size w w' → KnQ t w (.returned (.tuple #[.agg #[.slice none 0 0, .slice none 0 0, .int .i64 0], .int .i64 3])) w') := Lib.hid fun w' hb => ⟨hb, none, 0, none, 0, by rw [hE, hd, hw, hc]; rfl, by rw [hd]; exact OwnI.nil _ _ _, by rw [hw]; exact OwnI.nil _ _ _⟩
    have HRD := Lib.hid (fun W => reading_any t W (vbB_iff.1 hv).2 (vbB_iff.1 hv).1)
    have HO := Lib.hid ho
    rw [hv] at HV
    clear hE hd hw hc hv ho
    generalize KnQ t w = R at *
    unfold RdQ at HRD
    go_enter Tryd.func33, Tryd.ntmps33
    go_upto_region 1 with (fail)
    generalize hw2 : w.alloc (.cells #[.slice none 0 0, .slice none 0 0, .int .i64 0] 55) = w2 at *
    have hlt := HW.out.2.lt
    generalize w.heap.size = b2 at *
    go_wp2_with (first
      | (go_at_call 35; refine (HV.out _).mono ?_; rintro e w3 ⟨rfl, h3⟩)
      | (go_at_call 36; refine (HRD.out _).mono ?_; rintro e w4 ⟨h4, A5, n5, c5, A6, n6, c6, ch6, ok6, rfl, hor⟩; have hok : ok6 = false := hor.elim (fun h => h.1) (fun ⟨_, d', ws', m', h', _⟩ => by rw [HO.out] at h'; cases h'); subst hok; clear hor; have y2 := ((HW.out.2.on h3).on h4).on (below_alloc w4 (.cells #[.slice A5 n5 c5, .slice A6 n6 c6, .int .i64 ch6] 55)); have r0 := y2.cell 0; have r1 := y2.cell 1; have r2 := y2.cell 2; have g0 := y2.frozen 0; have g1 := y2.frozen 1; have g2 := y2.frozen 2))
    obtain ⟨wf, hwf⟩ : ∃ wf, wf = ((((w4.alloc (.cells #[.slice A5 n5 c5, .slice A6 n6 c6, .int .i64 ch6] 55)).setCell ⟨b2, 0, none⟩ (.slice none 0 0)).setCell ⟨b2, 1, none⟩ (.slice none 0 0)).setCell ⟨b2, 2, none⟩ (.int .i64 0)) := ⟨_, rfl⟩
    rw [← hwf]
    have BX := ((y2.set_ 0 (.slice none 0 0)).set_ 1 (.slice none 0 0)).set_ 2 (.int .i64 0)
    rw [← hwf] at BX
    have e0 : wf.cell? ⟨b2, 0, none⟩ = some (.slice none 0 0) := BX.cell 0
    have e1 : wf.cell? ⟨b2, 1, none⟩ = some (.slice none 0 0) := BX.cell 1
    have e2 : wf.cell? ⟨b2, 2, none⟩ = some (.int .i64 0) := BX.cell 2
    have HBF : Below b2 w wf := by rw [hwf]; exact (((HW.out.1.trans (((h3.trs h4).trs (below_alloc w4 (.cells #[.slice A5 n5 c5, .slice A6 n6 c6, .int .i64 ch6] 55))).mono (by omega))).setCell (p := ⟨b2, 0, none⟩) (Nat.le_refl _) _).setCell (p := ⟨b2, 1, none⟩) (Nat.le_refl _) _).setCell (p := ⟨b2, 2, none⟩) (Nat.le_refl _) _
    refine bodyPost_ret (v := .tuple #[.agg #[.slice none 0 0, .slice none 0 0, .int .i64 0], .int .i64 3]) (by simp [results, Tryd.results33, go_sem, e0, e1, e2]) rfl (HK.out _ HBF)
  · have HRD := Lib.hid (fun W => reading_any t W (vbB_iff.1 hv).2 (vbB_iff.1 hv).1)
    have HO := Lib.hid ho
    have HK : Hid (∀ A c A2 c2 w', Below w.heap.size w w' → OwnI w' w.heap.size 3 (.slice A d.length c) d → OwnI w' w.heap.size 3 (.slice A2 ws.length c2) ws → KnQ t w (.returned (.tuple #[.agg #[.slice A d.length c, .slice A2 ws.length c2, .int .i64 (m : Int)], .int .i64 0])) w') := Lib.hid fun A c A2 c2 w' hb o1 o2 => ⟨hb, A, c, A2, c2, by rw [hE, hd, hw, hc], by rw [hd]; exact o1, by rw [hw]; exact o2⟩
    rw [hv] at HV
    clear hE hd hw hc hv ho
    generalize KnQ t w = R at *
    unfold RdQ at HRD
    go_enter Tryd.func33, Tryd.ntmps33
    go_upto_region 1 with (fail)
    generalize hw2 : w.alloc (.cells #[.slice none 0 0, .slice none 0 0, .int .i64 0] 55) = w2 at *
    have hlt := HW.out.2.lt
    generalize w.heap.size = b2 at *
    have HRD4 : Hid (∀ W, Calls Tryd.prog 36 #[.string ⟨t.toArray⟩] W fun e w' => Below W.heap.size W w' ∧ ∃ A c A2 c2, e = .returned (.tuple #[.agg #[.slice A d.length c, .slice A2 ws.length c2, .int .i64 (m : Int)], .bool true]) ∧ OwnI w' W.heap.size 3 (.slice A d.length c) d ∧ OwnI w' W.heap.size 3 (.slice A2 ws.length c2) ws) := Lib.hid fun W => (HRD.out W).mono fun e w' ⟨hb, A5, n5, c5, A6, n6, c6, ch6, ok6, he, hor⟩ => by
      rcases hor with ⟨-, h⟩ | ⟨hok, d', ws', m', h', hn1, hn2, hch, -, o1, o2⟩
      · rw [HO.out] at h; cases h
      · rw [HO.out] at h'
        injection h' with h'
        injection h' with e1 h'
        injection h' with e2 e3
        subst e1; subst e2; subst e3; subst hn1; subst hn2; subst hch; subst hok
        exact ⟨hb, A5, c5, A6, c6, he, o1, o2⟩
    clear HRD HO
    generalize d.length = nd at *
    generalize ws.length = nw at *
    go_wp2_with (first
      | (go_at_call 35; refine (HV.out _).mono ?_; rintro e w3 ⟨rfl, h3⟩)
      | (go_at_call 36; refine (HRD4.out _).mono ?_; rintro e w4 ⟨h4, A5, c5, A6, c6, rfl, o1, o2⟩; replace o1 := Lib.hid o1; replace o2 := Lib.hid o2; have y2 := ((HW.out.2.on h3).on h4).on (below_alloc w4 (.cells #[.slice A5 nd c5, .slice A6 nw c6, .int .i64 (m : Int)] 55)); have r0 := y2.cell 0; have r1 := y2.cell 1; have r2 := y2.cell 2; have g0 := y2.frozen 0; have g1 := y2.frozen 1; have g2 := y2.frozen 2))
    obtain ⟨wf, hwf⟩ : ∃ wf, wf = ((((w4.alloc (.cells #[.slice A5 nd c5, .slice A6 nw c6, .int .i64 (m : Int)] 55)).setCell ⟨b2, 0, none⟩ (.slice A5 nd c5)).setCell ⟨b2, 1, none⟩ (.slice A6 nw c6)).setCell ⟨b2, 2, none⟩ (.int .i64 (m : Int))) := ⟨_, rfl⟩
    rw [← hwf]
    have BX := ((y2.set_ 0 (.slice A5 nd c5)).set_ 1 (.slice A6 nw c6)).set_ 2 (.int .i64 (m : Int))
    rw [← hwf] at BX
    have e0 : wf.cell? ⟨b2, 0, none⟩ = some (.slice A5 nd c5) := BX.cell 0
    have e1 : wf.cell? ⟨b2, 1, none⟩ = some (.slice A6 nw c6) := BX.cell 1
    have e2 : wf.cell? ⟨b2, 2, none⟩ = some (.int .i64 (m : Int)) := BX.cell 2
    have HBF : Below b2 w wf := by rw [hwf]; exact (((HW.out.1.trans (((h3.trs h4).trs (below_alloc w4 (.cells #[.slice A5 nd c5, .slice A6 nw c6, .int .i64 (m : Int)] 55))).mono (by omega))).setCell (p := ⟨b2, 0, none⟩) (Nat.le_refl _) _).setCell (p := ⟨b2, 1, none⟩) (Nat.le_refl _) _).setCell (p := ⟨b2, 2, none⟩) (Nat.le_refl _) _
    have hb3 : b2 < w3.heap.size := Nat.lt_of_lt_of_le hlt h3.size
    have p1 := ((((o1.out.kept (below_alloc w4 (.cells #[.slice A5 nd c5, .slice A6 nw c6, .int .i64 (m : Int)] 55))).setFar hb3 0 (.slice A5 nd c5)).setFar hb3 1 (.slice A6 nw c6)).setFar hb3 2 (.int .i64 (m : Int))).less (Nat.le_of_lt hb3)
    have p2 := ((((o2.out.kept (below_alloc w4 (.cells #[.slice A5 nd c5, .slice A6 nw c6, .int .i64 (m : Int)] 55))).setFar hb3 0 (.slice A5 nd c5)).setFar hb3 1 (.slice A6 nw c6)).setFar hb3 2 (.int .i64 (m : Int))).less (Nat.le_of_lt hb3)
    rw [← hwf] at p1 p2
    refine bodyPost_ret (v := .tuple #[.agg #[.slice A5 nd c5, .slice A6 nw c6, .int .i64 (m : Int)], .int .i64 0]) (by simp [results, Tryd.results33, go_sem, e0, e1, e2]) rfl (HK.out _ _ _ _ _ HBF p1 p2)
end Go.Proofs.YtkjiancdhaocaaaDoor
