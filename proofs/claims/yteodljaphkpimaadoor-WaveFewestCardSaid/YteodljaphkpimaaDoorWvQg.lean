/- Walks over package wave and its reference: the reference's Decode, Widths, Changes; IsText of both. -/
import Derived.Test.YteodljaphkpimaaDoorWvQf
namespace Go.Proofs.YteodljaphkpimaaDoor
open Go.RowKit Go.Shelf
set_option linter.unusedSimpArgs false
set_option linter.unusedVariables false
attribute [local go_sem] Oper.semAt_some

set_option maxHeartbeats 2000000 in
theorem refDecode_any (t : Tx) (w : World) (h : t.length ≤ 1000000) : Calls Tryd.prog 37 #[.string ⟨t.toArray⟩] w (LisE (accL (dD t)) (deE t) w) := by
  have HD := Lib.hid (refDec_any t w h)
  unfold DcQ at HD
  have HX : Hid (∀ w' A c, Below w.heap.size w w' → RdI w' w'.heap.size A (accL (dD t)) → LisE (accL (dD t)) (deE t) w (.returned (.tuple #[.slice A (accL (dD t)).length c, .int .i64 (deE t)])) w') := Lib.hid fun w' A c hb hr => ⟨hb, A, c, rfl, hr⟩
  generalize LisE (accL (dD t)) (deE t) w = R at *
  generalize accL (dD t) = al at *
  generalize dW t = ws at *
  generalize dC t = m at *
  generalize deE t = E at *
  go_enter Tryd.func37, Tryd.ntmps37
  go_wp2_with (go_at_call 70; refine HD.out.mono ?_; rintro e w1 ⟨h1, A, n, c, A2, n2, c2, rfl, hn, hn2, r1, r2⟩; replace hn := Lib.hid hn; replace r1 := Lib.hid r1; clear r2 hn2)
  have := HX.out _ _ c h1 r1.out
  rw [← hn.out] at this
  exact this
set_option maxHeartbeats 2000000 in
theorem refWidths_any (t : Tx) (w : World) (h : t.length ≤ 1000000) : Calls Tryd.prog 39 #[.string ⟨t.toArray⟩] w (LisE (dW t) (deE t) w) := by
  have HD := Lib.hid (refDec_any t w h)
  unfold DcQ at HD
  have HX : Hid (∀ w' A c, Below w.heap.size w w' → RdI w' w'.heap.size A (dW t) → LisE (dW t) (deE t) w (.returned (.tuple #[.slice A (dW t).length c, .int .i64 (deE t)])) w') := Lib.hid fun w' A c hb hr => ⟨hb, A, c, rfl, hr⟩
  generalize LisE (dW t) (deE t) w = R at *
  generalize accL (dD t) = al at *
  generalize dW t = ws at *
  generalize dC t = m at *
  generalize deE t = E at *
  go_enter Tryd.func39, Tryd.ntmps39
  go_wp2_with (go_at_call 70; refine HD.out.mono ?_; rintro e w1 ⟨h1, A, n, c, A2, n2, c2, rfl, hn, hn2, r1, r2⟩; replace hn2 := Lib.hid hn2; replace r2 := Lib.hid r2; clear r1 hn)
  have := HX.out _ _ c2 h1 r2.out
  rw [← hn2.out] at this
  exact this
set_option maxHeartbeats 2000000 in
theorem refChanges_any (t : Tx) (w : World) (h : t.length ≤ 1000000) : Calls Tryd.prog 41 #[.string ⟨t.toArray⟩] w fun e w' => e = .returned (.tuple #[.int .i64 (dC t : Nat), .int .i64 (deE t)]) ∧ Below w.heap.size w w' := by
  have HD := Lib.hid (refDec_any t w h)
  unfold DcQ at HD
  generalize accL (dD t) = al at *
  generalize dW t = ws at *
  generalize dC t = m at *
  generalize deE t = E at *
  go_enter Tryd.func41, Tryd.ntmps41
  go_wp2_with (go_at_call 70; refine HD.out.mono ?_; rintro e w1 ⟨h1, A, n, c, A2, n2, c2, rfl, hn, hn2, r1, r2⟩; clear r1 hn r2 hn2)
  go_ret2
  exact ⟨by simp, h1⟩
/-! ### IsText -/
theorem acc_dif (s : List Int) : ∀ i, i < s.length → accN (difs s) (i + 1) = ix s i
  | 0, h => by rw [accN, accN, difs_ix s h]; simp [difA]
  | i + 1, h => by
    rw [accN, acc_dif s i (by omega), difs_ix s h]
    unfold difA
    rw [if_neg (by omega), Nat.add_sub_cancel]
    omega
theorem accL_ix (d : List Int) {i : Nat} (hi : i < d.length) : ix (accL d) i = accN d (i + 1) := by simp [ix, accL, accP, hi]
theorem accL_difs (s : List Int) : accL (difs s) = s := ix_ext (by rw [accL_len, difs_len]) fun k hk => by
  rw [accL_len, difs_len] at hk
  rw [accL_ix _ (by rw [difs_len]; exact hk), acc_dif s k hk]
theorem difs_accL (d : List Int) : difs (accL d) = d := ix_ext (by rw [difs_len, accL_len]) fun k hk => by
  rw [difs_len, accL_len] at hk
  rw [difs_ix _ (by rw [accL_len]; exact hk)]
  unfold difA
  rw [accL_ix _ hk]
  cases k with
  | zero => simp [accN]
  | succ k =>
    rw [if_neg (by omega), Nat.add_sub_cancel, accL_ix _ (by omega), accN]
    omega
theorem same_acc (s d : List Int) : decide (d = difs s) = decide (s = accL d) := by
  rw [decide_eq_decide]
  constructor
  · rintro rfl; exact (accL_difs s).symm
  · rintro rfl; exact (difs_accL d).symm
/-- is it a text of a wave form -/
def isV (s : List Int) (t : Tx) : Bool := vldW s && (match deV t with | some (d, _, _) => decide (d = difs s) | none => false)
def isE (s : List Int) (t : Tx) : Int := if vldW s = true then (if vbB t = true then 0 else 31) else 30
set_option maxRecDepth 100000 in
set_option maxHeartbeats 4000000 in
theorem IsText_any (A : Option Addr) (c : Nat) (s : List Int) (t : Tx) (w : World) (hr : RdI w w.heap.size A s) (hl : s.length ≤ 1000000) (h : t.length ≤ 1000000) :
    Calls Tryd.prog 42 #[.slice A s.length c, .string ⟨t.toArray⟩] w fun e w' => e = .returned (.tuple #[.bool (isV s t), .int .i64 (isE s t)]) ∧ Below w.heap.size w w' := by
  have HV := Lib.hid (Valid_any A c s w hr hl)
  have HB := Lib.hid (fun W => ValidBits_any t W h)
  cases hv : vldW s
  · rw [show isV s t = false by unfold isV; rw [hv]; rfl, show isE s t = 30 by unfold isE; rw [hv]; rfl]
    rw [hv] at HV
    clear hr
    generalize s.length = n at *
    go_enter Tryd.func42, Tryd.ntmps42
    go_wp2_with (go_at_call 20; refine HV.out.mono ?_; rintro e w1 ⟨rfl, h1⟩)
    go_ret2
    exact ⟨by simp, h1⟩
  · rw [hv] at HV
    cases hb : vbB t
    · rw [show isV s t = false by unfold isV deV; rw [hv, hb]; rfl, show isE s t = 31 by unfold isE; rw [hv, hb]; rfl]
      rw [hb] at HB
      clear hr
      generalize s.length = n at *
      go_enter Tryd.func42, Tryd.ntmps42
      go_wp2_with (first
        | (go_at_call 20; refine HV.out.mono ?_; rintro e w1 ⟨rfl, h1⟩)
        | (go_at_call 22; refine (HB.out _).mono ?_; rintro e w2 ⟨rfl, h2⟩))
      go_ret2
      exact ⟨by simp, h1.trs h2⟩
    · rw [show isE s t = 0 by unfold isE; rw [hv, hb]; rfl]
      have HRD := Lib.hid (fun W => reading_any t W (vbB_iff.1 hb).2 (vbB_iff.1 hb).1)
      unfold RdQ at HRD
      rw [hb] at HB
      cases ho : deO t with
      | none =>
        rw [show isV s t = false by unfold isV deV; rw [hv, hb, if_pos rfl, ho]; rfl]
        have HN : Hid (∀ W, Calls Tryd.prog 71 #[.string ⟨t.toArray⟩] W fun e w' => Below W.heap.size W w' ∧ ∃ A n c A2 n2 c2 ch, e = .returned (.tuple #[.agg #[.slice A n c, .slice A2 n2 c2, .int .i64 ch], .bool false])) := Lib.hid fun W => (HRD.out W).mono fun e w' ⟨hb, A, n, c, A2, n2, c2, ch, ok, he, hor⟩ => by
          rcases hor with ⟨hok, -⟩ | ⟨-, d, ws, m, h', -⟩
          · subst hok; exact ⟨hb, A, n, c, A2, n2, c2, ch, he⟩
          · rw [ho] at h'; cases h'
        clear hr HRD ho
        generalize s.length = n at *
        go_enter Tryd.func42, Tryd.ntmps42
        go_wp2_with (first
          | (go_at_call 20; refine HV.out.mono ?_; rintro e w1 ⟨rfl, h1⟩)
          | (go_at_call 22; refine (HB.out _).mono ?_; rintro e w2 ⟨rfl, h2⟩)
          | (go_at_call 71; refine (HN.out _).mono ?_; rintro e w3 ⟨h3, A5, n5, c5, A6, n6, c6, ch6, rfl⟩))
        go_quiet (fail)
        go_wp2
        go_ret2
        exact ⟨by simp, (((h1.trs h2).trs h3).trs (below_alloc _ _)).drewsN _⟩
      | some r =>
        obtain ⟨d, ws, m⟩ := r
        rw [show isV s t = decide (d = difs s) by unfold isV deV; rw [hv, hb, if_pos rfl, ho]; rfl]
        obtain ⟨hv1, hv2, hv3⟩ := vldW_iff.1 hv
        have HN : Hid (∀ W, Calls Tryd.prog 71 #[.string ⟨t.toArray⟩] W fun e w' => Below W.heap.size W w' ∧ ∃ A c A2 c2, e = .returned (.tuple #[.agg #[.slice A d.length c, .slice A2 ws.length c2, .int .i64 (m : Int)], .bool true]) ∧ d.length ≤ 1000 ∧ RdI w' w'.heap.size A d) := Lib.hid fun W => (HRD.out W).mono fun e w' ⟨hb, A, n, c, A2, n2, c2, ch, ok, he, hor⟩ => by
          rcases hor with ⟨-, h'⟩ | ⟨hok, d', ws', m', h', a, b, c', hl, o1, o2⟩
          · rw [ho] at h'; cases h'
          · rw [ho] at h'
            injection h' with h'
            injection h' with e1 h'
            injection h' with e2 e3
            subst e1; subst e2; subst e3; subst a; subst b; subst c'; subst hok
            exact ⟨hb, A, c, A2, c2, he, hl, o1.rdA⟩
        have HD := Lib.hid (fun W (hW : Below w.heap.size w W) => differences_any A c s W (hr.on hW) (by omega) hv3)
        have hdl := difs_len s
        have HEQ := Lib.hid (fun A c A2 c2 W h1 h2 (hl : d.length ≤ 1000000) => EqualG_any A c A2 c2 d (difs s) W h1 h2 hl (by omega))
        unfold LisQ at HD
        rw [hdl] at HD HEQ
        clear hr HRD ho hdl hv hb hv1 hv2 hv3
        generalize decide (d = difs s) = res at *
        generalize difs s = ds at *
        generalize s.length = n at *
        generalize d.length = nd at *
        generalize ws.length = nw at *
        go_enter Tryd.func42, Tryd.ntmps42
        go_wp2_with (first
          | (go_at_call 20; refine HV.out.mono ?_; rintro e w1 ⟨rfl, h1⟩)
          | (go_at_call 22; refine (HB.out _).mono ?_; rintro e w2 ⟨rfl, h2⟩)
          | (go_at_call 71; refine (HN.out _).mono ?_; rintro e w3 ⟨h3, A5, c5, A6, c6, rfl, hl5, r5⟩; replace r5 := Lib.hid r5))
        have y5 := Box.new w3 67 #[.slice A5 nd c5, .slice A6 nw c6, .int .i64 (m : Int)]
        have hb5 := below_alloc w3 (.cells #[.slice A5 nd c5, .slice A6 nw c6, .int .i64 (m : Int)] 67)
        have HA := Lib.hid (((h1.trs h2).trs h3).trs hb5)
        have R5 := Lib.hid (r5.out.on hb5)
        generalize w3.alloc (.cells #[.slice A5 nd c5, .slice A6 nw c6, .int .i64 (m : Int)] 67) = w5 at *
        clear h1 h2 h3 hb5 r5
        generalize w3.heap.size = g at *
        have HK := Lib.hid (fun W (hW : Below w5.heap.size w5 W) => (⟨hW, (y5.on hW).cell 0⟩ : Below w5.heap.size w5 W ∧ W.cell? ⟨g, 0, none⟩ = some (.slice A5 nd c5)))
        clear y5
        go_region_held3 (fun w' => Below w5.heap.size w5 w' ∧ w'.cell? ⟨g, 0, none⟩ = some (.slice A5 nd c5))
          (first | exact HK.out _ h7 | exact HK.out _ h6 | exact HK.out _ ((Below.refl _ _).drewsN 1))
          (first
            | (go_at_call 72; refine (HEQ.out _ _ _ _ _ (R5.out.on h6) hr6.out (by omega)).mono ?_; rintro e w7 ⟨rfl, h7⟩; replace h7 := h6.trs h7)
            | (go_at_call 49; refine (HD.out _ (HA.out.trs ((Below.refl _ _).drewsN 1))).mono ?_; rintro e w6 ⟨h6, A7, c7, rfl, hr6⟩; replace hr6 := Lib.hid hr6; replace h6 := ((Below.refl w5.heap.size w5).drewsN 1).trs h6))
        all_goals
          go_wp2
          go_ret2
          exact ⟨by simp, HA.out.trs h7⟩
set_option maxRecDepth 100000 in
set_option maxHeartbeats 4000000 in
theorem refIsText_any (A : Option Addr) (c : Nat) (s : List Int) (t : Tx) (w : World) (hr : RdI w w.heap.size A s) (hl : s.length ≤ 1000000) (h : t.length ≤ 1000000) :
    Calls Tryd.prog 43 #[.slice A s.length c, .string ⟨t.toArray⟩] w fun e w' => e = .returned (.tuple #[.bool (isV s t), .int .i64 (isE s t)]) ∧ Below w.heap.size w w' := by
  have HV := Lib.hid (refValid_any A c s w hr hl)
  have HDC := Lib.hid (fun W => refDecode_any t W h)
  unfold LisE at HDC
  cases hv : vldW s
  · rw [show isV s t = false by unfold isV; rw [hv]; rfl, show isE s t = 30 by unfold isE; rw [hv]; rfl]
    rw [hv] at HV
    clear hr
    generalize s.length = n at *
    go_enter Tryd.func43, Tryd.ntmps43
    go_wp2_with (go_at_call 21; refine HV.out.mono ?_; rintro e w1 ⟨rfl, h1⟩)
    go_ret2
    exact ⟨by simp, h1⟩
  · rw [hv] at HV
    rcases de_cases t with ⟨hb, hE, -⟩ | ⟨hb, ho, hE, -⟩ | ⟨d, ws, m, hb, ho, hE, hd, -⟩
    · rw [show isV s t = false by unfold isV deV; rw [hv, hb]; rfl, show isE s t = 31 by unfold isE; rw [hv, hb]; rfl]
      rw [hE] at HDC
      clear hr hE
      generalize accL (dD t) = al at *
      generalize s.length = n at *
      go_enter Tryd.func43, Tryd.ntmps43
      go_wp2_with (first
        | (go_at_call 21; refine HV.out.mono ?_; rintro e w1 ⟨rfl, h1⟩)
        | (go_at_call 37; refine (HDC.out _).mono ?_; rintro e w2 ⟨h2, A5, c5, rfl, r5⟩; clear r5))
      go_ret2
      exact ⟨by simp, h1.trs h2⟩
    · rw [show isV s t = false by unfold isV deV; rw [hv, hb, if_pos rfl, ho]; rfl, show isE s t = 0 by unfold isE; rw [hv, hb]; rfl]
      rw [hE] at HDC
      clear hr hE ho
      generalize accL (dD t) = al at *
      generalize s.length = n at *
      go_enter Tryd.func43, Tryd.ntmps43
      go_wp2_with (first
        | (go_at_call 21; refine HV.out.mono ?_; rintro e w1 ⟨rfl, h1⟩)
        | (go_at_call 37; refine (HDC.out _).mono ?_; rintro e w2 ⟨h2, A5, c5, rfl, r5⟩; clear r5))
      go_ret2
      exact ⟨by simp, h1.trs h2⟩
    · rw [show isV s t = decide (s = accL d) by rw [← same_acc]; unfold isV deV; rw [hv, hb, if_pos rfl, ho]; rfl, show isE s t = 0 by unfold isE; rw [hv, hb]; rfl]
      have hal : (accL d).length ≤ 1000000 := by rw [accL_len, ← hd]; exact dD_len t
      have HSI := Lib.hid (fun A2 c2 W (hW : Below w.heap.size w W) h2 => SameIntsG_any A c A2 c2 s (accL d) W (hr.on hW) h2 hl hal)
      rw [hE, hd] at HDC
      clear hr hE ho hal hd
      generalize decide (s = accL d) = res at *
      generalize accL d = al at *
      generalize s.length = n at *
      go_enter Tryd.func43, Tryd.ntmps43
      go_wp2_with (first
        | (go_at_call 21; refine HV.out.mono ?_; rintro e w1 ⟨rfl, h1⟩)
        | (go_at_call 37; refine (HDC.out _).mono ?_; rintro e w2 ⟨h2, A5, c5, rfl, r5⟩; replace r5 := Lib.hid r5)
        | (go_at_call 24; refine (HSI.out _ _ _ (h1.trs h2) r5.out).mono ?_; rintro e w3 ⟨rfl, h3⟩))
      go_ret2
      exact ⟨by simp, (h1.trs h2).trs h3⟩
end Go.Proofs.YteodljaphkpimaaDoor
