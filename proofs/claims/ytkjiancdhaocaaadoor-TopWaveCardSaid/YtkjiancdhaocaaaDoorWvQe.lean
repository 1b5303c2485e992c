/- WvQe WvQf WvQg -/
import Derived.Test.YtkjiancdhaocaaaDoorWvQd
/- Walks over package wave and its reference: Decode, Widths, Changes. -/
namespace Go.Proofs.YtkjiancdhaocaaaDoor
open Go.RowKit Go.Shelf
set_option linter.unusedSimpArgs false
set_option linter.unusedVariables false
attribute [local go_sem] Oper.semAt_some

theorem deE_ok {t : Tx} (h : deE t = 0) : ∃ ws m, deO t = some (dD t, ws, m) ∧ smpOk (dD t) = true := by
  rcases de_cases t with ⟨-, hE, -⟩ | ⟨-, -, hE, -⟩ | ⟨d, ws, m, -, ho, -, hd, hw, hc⟩
  · rw [hE] at h; cases h
  · rw [hE] at h; cases h
  · rw [hd]; exact ⟨ws, m, ho, (deO_ok ho).1⟩
theorem deE_bad {t : Tx} (h : deE t ≠ 0) : dD t = [] ∧ dW t = [] ∧ dC t = 0 := by
  rcases de_cases t with ⟨-, hE, hd, hw, hc⟩ | ⟨-, -, hE, hd, hw, hc⟩ | ⟨d, ws, m, -, ho, hE, hd, hw, hc⟩
  · exact ⟨hd, hw, hc⟩
  · exact ⟨hd, hw, hc⟩
  · exact absurd hE h
theorem accL_nil : accL [] = [] := rfl
theorem OwnI.rdA {w : World} {B : Nat} {e : TypeId} {A : Option Addr} {n c : Nat} {l : List Int} (h : OwnI w B e (.slice A n c) l) : RdI w w.heap.size A l := by
  obtain ⟨A', c', e', hr⟩ := h.rd
  injection e' with e1
  subst e1
  exact hr
theorem dD_len (t : Tx) : (dD t).length ≤ 1000000 := by
  by_cases h : deE t = 0
  · obtain ⟨ws, m, -, hs⟩ := deE_ok h
    unfold smpOk at hs
    simp only [Bool.and_eq_true, decide_eq_true_eq] at hs
    omega
  · rw [(deE_bad h).1]; simp
theorem samples_ok (A : Option Addr) (c : Nat) (l : List Int) (w : World) (hr : RdI w w.heap.size A l) (hl : l.length ≤ 1000000) (hs : smpOk l = true) :
    Calls Tryd.prog 34 #[.slice A l.length c] w fun e w' => Below w.heap.size w w' ∧ ∃ A c, e = .returned (.tuple #[.slice A l.length c, .bool true]) ∧ RdI w' w'.heap.size A (accL l) :=
  (samples_any A c l w hr hl).mono fun e w' ⟨hb, A, n, c, he, hy⟩ => by
    obtain ⟨hn, hr⟩ := hy hs
    subst hn
    rw [hs] at he
    exact ⟨hb, A, c, he, hr⟩
set_option maxHeartbeats 4000000 in
theorem Decode_any (t : Tx) (w : World) (h : t.length ≤ 1000000) : Calls Tryd.prog 13 #[.string ⟨t.toArray⟩] w (LisE (accL (dD t)) (deE t) w) := by
  have HK := Lib.hid (known_any t w h)
  unfold KnQ at HK
  by_cases hE : deE t = 0
  · obtain ⟨_, _, -, hs⟩ := deE_ok hE
    have HSM := Lib.hid (fun A c W hr => samples_ok A c (dD t) W hr (dD_len t) hs)
    have HX : Hid (∀ w' A c, Below w.heap.size w w' → RdI w' w'.heap.size A (accL (dD t)) → LisE (accL (dD t)) (deE t) w (.returned (.tuple #[.slice A (dD t).length c, .int .i64 0])) w') := Lib.hid fun w' A c hb hr => ⟨hb, A, c, by rw [accL_len, hE], hr⟩
    rw [hE] at HK
    generalize LisE (accL (dD t)) (deE t) w = R at *
    clear hE hs
    generalize accL (dD t) = al at *
    generalize dD t = d at *
    generalize dW t = ws at *
    generalize dC t = m at *
    generalize d.length = nd at *
    generalize ws.length = nw at *
    go_enter Tryd.func13, Tryd.ntmps13
    go_wp2_with (first
      | (go_at_call 33; refine HK.out.mono ?_; rintro e w1 ⟨h1, A1, c1, A2, c2, rfl, o1, o2⟩; replace o1 := Lib.hid o1; clear o2)
      | (go_at_call 34; refine (HSM.out _ _ _ (o1.out.kept (below_alloc _ _)).rdA).mono ?_; rintro e w3 ⟨h3, A3, c3, rfl, hr3⟩; have HR3 := Lib.hid hr3; clear hr3))
    exact HX.out _ _ _ ((h1.trs (below_alloc _ _)).trs h3) HR3.out
  · have HX : Hid (∀ w', Below w.heap.size w w' → LisE (accL (dD t)) (deE t) w (.returned (.tuple #[.slice none 0 0, .int .i64 (deE t)])) w') := Lib.hid fun w' hb => by rw [(deE_bad hE).1]; exact LisE.none hb
    have hE1 : (deE t == 0) = false := beq_eq_false_iff_ne.2 hE
    generalize LisE (accL (dD t)) (deE t) w = R at *
    generalize dD t = d at *
    generalize dW t = ws at *
    generalize dC t = m at *
    generalize d.length = nd at *
    generalize ws.length = nw at *
    generalize deE t = E at *
    go_enter Tryd.func13, Tryd.ntmps13
    go_wp2_with (first
      | (go_at_call 33; refine HK.out.mono ?_; rintro e w1 ⟨h1, A1, c1, A2, c2, rfl, o1, o2⟩; clear o1 o2))
    exact HX.out _ (h1.trs (below_alloc _ _))
set_option maxHeartbeats 4000000 in
theorem Widths_any (t : Tx) (w : World) (h : t.length ≤ 1000000) : Calls Tryd.prog 18 #[.string ⟨t.toArray⟩] w (LisE (dW t) (deE t) w) := by
  have HK := Lib.hid (known_any t w h)
  unfold KnQ at HK
  have HX : Hid (∀ w' A c, Below w.heap.size w w' → RdI w' w'.heap.size A (dW t) → LisE (dW t) (deE t) w (.returned (.tuple #[.slice A (dW t).length c, .int .i64 (deE t)])) w') := Lib.hid fun w' A c hb hr => ⟨hb, A, c, rfl, hr⟩
  generalize LisE (dW t) (deE t) w = R at *
  generalize dD t = d at *
  generalize dW t = ws at *
  generalize dC t = m at *
  generalize d.length = nd at *
  generalize ws.length = nw at *
  generalize deE t = E at *
  go_enter Tryd.func18, Tryd.ntmps18
  go_wp2_with (first
    | (go_at_call 33; refine HK.out.mono ?_; rintro e w1 ⟨h1, A1, c1, A2, c2, rfl, o1, o2⟩; replace o2 := Lib.hid o2; clear o1))
  exact HX.out _ _ _ (h1.trs (below_alloc _ _)) (o2.out.kept (below_alloc _ _)).rdA
end Go.Proofs.YtkjiancdhaocaaaDoor

/- Walks over the reference of chapter wave: decode, Decode, Widths, Changes; IsText of both. -/
namespace Go.Proofs.YtkjiancdhaocaaaDoor
open Go.RowKit Go.Shelf
set_option linter.unusedSimpArgs false
set_option linter.unusedVariables false
attribute [local go_sem] Oper.semAt_some

/-- what the reference's decode hands back -/
def DcQ (t : Tx) (w : World) (e : Ending) (w' : World) : Prop := Below w.heap.size w w' ∧ ∃ A n c A2 n2 c2, e = .returned (.tuple #[.slice A n c, .slice A2 n2 c2, .int .i64 (dC t : Nat), .int .i64 (deE t)]) ∧ n = (accL (dD t)).length ∧ n2 = (dW t).length ∧ RdI w' w'.heap.size A (accL (dD t)) ∧ RdI w' w'.heap.size A2 (dW t)
theorem DcQ.bad {t : Tx} {w : World} (hE : deE t ≠ 0) : Hid (∀ w', Below w.heap.size w w' → DcQ t w (.returned (.tuple #[.slice none 0 0, .slice none 0 0, .int .i64 0, .int .i64 (deE t)])) w') := Lib.hid fun w' hb =>
  ⟨hb, none, 0, 0, none, 0, 0, by rw [(deE_bad hE).2.2]; rfl, by rw [(deE_bad hE).1]; rfl, by rw [(deE_bad hE).2.1]; rfl, by rw [(deE_bad hE).1]; exact .inl rfl, by rw [(deE_bad hE).2.1]; exact .inl rfl⟩
set_option maxRecDepth 100000 in
set_option maxHeartbeats 4000000 in
theorem refDec_any (t : Tx) (w : World) (h : t.length ≤ 1000000) : Calls Tryd.prog 53 #[.string ⟨t.toArray⟩] w (DcQ t w) := by
  have HV := Lib.hid (fun W => refValidBits_any t W h)
  have HBD : deE t ≠ 0 → Hid (∀ w', Below w.heap.size w w' → DcQ t w (.returned (.tuple #[.slice none 0 0, .slice none 0 0, .int .i64 0, .int .i64 (deE t)])) w') := DcQ.bad
  have HOK : ∀ d ws m, deO t = some (d, ws, m) → vbB t = true → Hid (∀ w' A c A2 c2, Below w.heap.size w w' → RdI w' w'.heap.size A (accL d) → RdI w' w'.heap.size A2 ws → DcQ t w (.returned (.tuple #[.slice A (accL d).length c, .slice A2 ws.length c2, .int .i64 (m : Int), .int .i64 0])) w') := fun d ws m ho hv => Lib.hid fun w' A c A2 c2 hb h1 h2 => by
    rcases de_cases t with ⟨hv', -⟩ | ⟨-, ho', -⟩ | ⟨d', ws', m', -, ho', hE, hd, hw, hc⟩
    · rw [hv] at hv'; cases hv'
    · rw [ho] at ho'; cases ho'
    · rw [ho] at ho'
      injection ho' with e
      injection e with e1 e
      injection e with e2 e3
      subst e1; subst e2; subst e3
      exact ⟨hb, A, _, c, A2, _, c2, by rw [hE, hc], by rw [hd], by rw [hw], by rw [hd]; exact h1, by rw [hw]; exact h2⟩
  have hE31 : vbB t = false → deE t = 31 := fun hv => by unfold deE; rw [hv]; rfl
  have hE3 : vbB t = true → deO t = none → deE t = 3 := fun hv ho => by unfold deE; rw [hv, ho]; rfl
  generalize hRR : DcQ t w = R at *
  clear hRR
  cases hv : vbB t
  · have HX := HBD (by rw [hE31 hv]; decide)
    rw [hE31 hv] at HX
    rw [hv] at HV
    clear HBD HOK hE31 hE3 hv
    go_enter Tryd.func53, Tryd.ntmps53
    go_wp2_with (first
      | (go_at_call 61; refine (HV.out _).mono ?_; rintro e w1 ⟨rfl, rfl⟩))
    refine bodyPost_ret (v := .tuple #[.slice none 0 0, .slice none 0 0, .int .i64 0, .int .i64 31]) (by simp [results, Tryd.results53, go_sem]) rfl (HX.out _ (Below.refl _ _))
  · have HRD := Lib.hid (fun W => refRead_any t W (vbB_iff.1 hv).2 (vbB_iff.1 hv).1)
    unfold RfQ at HRD
    rw [hv] at HV
    cases hrd : rdF false t 2 with
    | none =>
      have ho := deO_none hrd
      have HX := HBD (by rw [hE3 hv ho]; decide)
      rw [hE3 hv ho] at HX
      have HN : Hid (∀ W, Calls Tryd.prog 62 #[.string ⟨t.toArray⟩] W fun e w' => Below W.heap.size W w' ∧ ∃ A n c A2 n2 c2 ch, e = .returned (.tuple #[.slice A n c, .slice A2 n2 c2, .int .i64 ch, .bool false])) := Lib.hid fun W => (HRD.out W).mono fun e w' ⟨hb, A, n, c, A2, n2, c2, ch, ok, he, hor⟩ => by
        rcases hor with ⟨hok, -⟩ | ⟨-, d, ws, m, h', -⟩
        · subst hok; exact ⟨hb, A, n, c, A2, n2, c2, ch, he⟩
        · rw [hrd] at h'; cases h'
      clear HBD HOK hE31 hE3 hv hrd ho HRD
      go_enter Tryd.func53, Tryd.ntmps53
      go_wp2_with (first
        | (go_at_call 61; refine (HV.out _).mono ?_; rintro e w1 ⟨rfl, rfl⟩)
        | (go_at_call 62; refine (HN.out _).mono ?_; rintro e w2 ⟨h2, A5, n5, c5, A6, n6, c6, ch6, rfl⟩))
      refine bodyPost_ret (v := .tuple #[.slice none 0 0, .slice none 0 0, .int .i64 0, .int .i64 3]) (by simp [results, Tryd.results53, go_sem]) rfl (HX.out _ h2)
    | some r =>
      obtain ⟨d, ws, m, lo⟩ := r
      have hdo := deO_some hrd
      by_cases hc : smpOk d = true ∧ lo = false
      · rw [if_pos hc] at hdo
        obtain ⟨hs, rfl⟩ := hc
        have HX := HOK d ws m hdo hv
        have HSM := Lib.hid (fun A c W hr (hl : d.length ≤ 1000000) => refSamples_any A c d W hr hl)
        rw [(smpE_ok hs).1, (smpE_ok hs).2] at HSM
        unfold LisE at HSM
        have HN : Hid (∀ W, Calls Tryd.prog 62 #[.string ⟨t.toArray⟩] W fun e w' => Below W.heap.size W w' ∧ ∃ A c A2 c2, e = .returned (.tuple #[.slice A d.length c, .slice A2 ws.length c2, .int .i64 (m : Int), .bool true]) ∧ d.length ≤ 1000 ∧ RdI w' w'.heap.size A d ∧ RdI w' w'.heap.size A2 ws) := Lib.hid fun W => (HRD.out W).mono fun e w' ⟨hb, A, n, c, A2, n2, c2, ch, ok, he, hor⟩ => by
          rcases hor with ⟨-, h'⟩ | ⟨hok, d', ws', m', h', -, a, b, c', hl, h1, h2⟩
          · rw [h'.deO] at hdo; cases hdo
          · rw [hrd] at h'
            injection h' with h'
            injection h' with e1 h'
            injection h' with e2 h'
            injection h' with e3 h'
            subst e1; subst e2; subst e3; subst a; subst b; subst c'; subst hok
            exact ⟨hb, A, c, A2, c2, he, hl, h1, h2⟩
        have hal := accL_len d
        have HAL := Lib.hid hal
        clear HBD HOK hE31 hE3 hv hrd hdo HRD hs hal
        generalize accL d = al at *
        rw [HAL.out] at HX HSM
        generalize d.length = nd at *
        generalize ws.length = nw at *
        go_enter Tryd.func53, Tryd.ntmps53
        go_wp2_with (first
          | (go_at_call 61; refine (HV.out _).mono ?_; rintro e w1 ⟨rfl, rfl⟩)
          | (go_at_call 62; refine (HN.out _).mono ?_; rintro e w2 ⟨h2, A5, c5, A6, c6, rfl, hl5, r5, r6⟩; replace r5 := Lib.hid r5; replace r6 := Lib.hid r6)
          | (go_at_call 63; refine (HSM.out _ _ _ r5.out (by omega)).mono ?_; rintro e w3 ⟨h3, A7, c7, rfl, r7⟩; replace r7 := Lib.hid r7))
        refine bodyPost_ret (v := .tuple #[.slice A7 nd c7, .slice A6 nw c6, .int .i64 (m : Int), .int .i64 0]) (by simp [results, Tryd.results53, go_sem]) rfl (HX.out _ _ _ _ _ (h2.trs h3) r7.out (r6.out.on h3))
      · rw [if_neg hc] at hdo
        have HX := HBD (by rw [hE3 hv hdo]; decide)
        rw [hE3 hv hdo] at HX
        cases lo
        · have hs : smpOk d = false := by
            cases hs : smpOk d with
            | false => rfl
            | true => exact absurd ⟨hs, rfl⟩ hc
          by_cases hd0 : d = []
          · have HN : Hid (∀ W, Calls Tryd.prog 62 #[.string ⟨t.toArray⟩] W fun e w' => Below W.heap.size W w' ∧ ∃ A n c A2 n2 c2 ch, e = .returned (.tuple #[.slice A n c, .slice A2 n2 c2, .int .i64 ch, .bool false])) := Lib.hid fun W => (HRD.out W).mono fun e w' ⟨hb, A, n, c, A2, n2, c2, ch, ok, he, hor⟩ => by
              rcases hor with ⟨hok, -⟩ | ⟨-, d', ws', m', h', hne, -⟩
              · subst hok; exact ⟨hb, A, n, c, A2, n2, c2, ch, he⟩
              · rw [hrd] at h'; injection h' with h'; injection h' with e1 h'; exact absurd (e1.symm.trans hd0) hne
            clear HBD HOK hE31 hE3 hv hrd hdo HRD hc hs
            go_enter Tryd.func53, Tryd.ntmps53
            go_wp2_with (first
              | (go_at_call 61; refine (HV.out _).mono ?_; rintro e w1 ⟨rfl, rfl⟩)
              | (go_at_call 62; refine (HN.out _).mono ?_; rintro e w2 ⟨h2, A5, n5, c5, A6, n6, c6, ch6, rfl⟩))
            refine bodyPost_ret (v := .tuple #[.slice none 0 0, .slice none 0 0, .int .i64 0, .int .i64 3]) (by simp [results, Tryd.results53, go_sem]) rfl (HX.out _ h2)
          · have HSM := Lib.hid (fun A c W hr (hl : d.length ≤ 1000000) => refSamples_any A c d W hr hl)
            rw [(smpE_no hs).1, (smpE_no hs).2] at HSM
            unfold LisE at HSM
            have HN : Hid (∀ W, Calls Tryd.prog 62 #[.string ⟨t.toArray⟩] W fun e w' => Below W.heap.size W w' ∧ ∃ A c A2 c2, e = .returned (.tuple #[.slice A d.length c, .slice A2 ws.length c2, .int .i64 (m : Int), .bool true]) ∧ d.length ≤ 1000 ∧ RdI w' w'.heap.size A d) := Lib.hid fun W => (HRD.out W).mono fun e w' ⟨hb, A, n, c, A2, n2, c2, ch, ok, he, hor⟩ => by
              rcases hor with ⟨-, h' | ⟨d', ws', m', lo', h', h''⟩⟩ | ⟨hok, d', ws', m', h', -, a, b, c', hl, h1, h2⟩
              · rw [hrd] at h'; cases h'
              · rw [hrd] at h'
                injection h' with h'
                injection h' with e1 h'
                injection h' with e2 h'
                injection h' with e3 e4
                rcases h'' with h'' | h''
                · exact absurd (e1.trans h'') hd0
                · rw [← e4] at h''; cases h''
              · rw [hrd] at h'
                injection h' with h'
                injection h' with e1 h'
                injection h' with e2 h'
                injection h' with e3 h'
                subst e1; subst e2; subst e3; subst a; subst b; subst c'; subst hok
                exact ⟨hb, A, c, A2, c2, he, hl, h1⟩
            clear HBD HOK hE31 hE3 hv hrd hdo HRD hs hc hd0
            generalize d.length = nd at *
            generalize ws.length = nw at *
            go_enter Tryd.func53, Tryd.ntmps53
            go_wp2_with (first
              | (go_at_call 61; refine (HV.out _).mono ?_; rintro e w1 ⟨rfl, rfl⟩)
              | (go_at_call 62; refine (HN.out _).mono ?_; rintro e w2 ⟨h2, A5, c5, A6, c6, rfl, hl5, r5⟩; replace r5 := Lib.hid r5)
              | (go_at_call 63; refine (HSM.out _ _ _ r5.out (by omega)).mono ?_; rintro e w3 ⟨h3, A7, c7, rfl, r7⟩; clear r7))
            refine bodyPost_ret (v := .tuple #[.slice none 0 0, .slice none 0 0, .int .i64 0, .int .i64 3]) (by simp [results, Tryd.results53, go_sem]) rfl (HX.out _ (h2.trs h3))
        · have HN : Hid (∀ W, Calls Tryd.prog 62 #[.string ⟨t.toArray⟩] W fun e w' => Below W.heap.size W w' ∧ ∃ A n c A2 n2 c2 ch, e = .returned (.tuple #[.slice A n c, .slice A2 n2 c2, .int .i64 ch, .bool false])) := Lib.hid fun W => (HRD.out W).mono fun e w' ⟨hb, A, n, c, A2, n2, c2, ch, ok, he, hor⟩ => by
            rcases hor with ⟨hok, -⟩ | ⟨-, d', ws', m', h', -⟩
            · subst hok; exact ⟨hb, A, n, c, A2, n2, c2, ch, he⟩
            · rw [hrd] at h'; injection h' with h'; injection h' with _ h'; injection h' with _ h'; injection h' with _ h'; cases h'
          clear HBD HOK hE31 hE3 hv hrd hdo HRD hc
          go_enter Tryd.func53, Tryd.ntmps53
          go_wp2_with (first
            | (go_at_call 61; refine (HV.out _).mono ?_; rintro e w1 ⟨rfl, rfl⟩)
            | (go_at_call 62; refine (HN.out _).mono ?_; rintro e w2 ⟨h2, A5, n5, c5, A6, n6, c6, ch6, rfl⟩))
          refine bodyPost_ret (v := .tuple #[.slice none 0 0, .slice none 0 0, .int .i64 0, .int .i64 3]) (by simp [results, Tryd.results53, go_sem]) rfl (HX.out _ h2)
end Go.Proofs.YtkjiancdhaocaaaDoor

/- Walks over package wave and its reference: the reference's Decode, Widths, Changes; IsText of both. -/
namespace Go.Proofs.YtkjiancdhaocaaaDoor
open Go.RowKit Go.Shelf
set_option linter.unusedSimpArgs false
set_option linter.unusedVariables false
attribute [local go_sem] Oper.semAt_some

set_option maxHeartbeats 2000000 in
theorem refDecode_any (t : Tx) (w : World) (h : t.length ≤ 1000000) : Calls Tryd.prog 32 #[.string ⟨t.toArray⟩] w (LisE (accL (dD t)) (deE t) w) := by
  have HD := Lib.hid (refDec_any t w h)
  unfold DcQ at HD
  have HX : Hid (∀ w' A c, Below w.heap.size w w' → RdI w' w'.heap.size A (accL (dD t)) → LisE (accL (dD t)) (deE t) w (.returned (.tuple #[.slice A (accL (dD t)).length c, .int .i64 (deE t)])) w') := Lib.hid fun w' A c hb hr => ⟨hb, A, c, rfl, hr⟩
  generalize LisE (accL (dD t)) (deE t) w = R at *
  generalize accL (dD t) = al at *
  generalize dW t = ws at *
  generalize dC t = m at *
  generalize deE t = E at *
  go_enter Tryd.func32, Tryd.ntmps32
  go_wp2_with (go_at_call 53; refine HD.out.mono ?_; rintro e w1 ⟨h1, A, n, c, A2, n2, c2, rfl, hn, hn2, r1, r2⟩; replace hn := Lib.hid hn; replace r1 := Lib.hid r1; clear r2 hn2)
  have := HX.out _ _ c h1 r1.out
  rw [← hn.out] at this
  exact this
theorem acc_dif (s : List Int) : ∀ i, i < s.length → accN (difs s) (i + 1) = ix s i
  | 0, h => by rw [accN, accN, difs_ix s h]; simp [difA]
  | i + 1, h => by
    rw [accN, acc_dif s i (by omega), difs_ix s h]
    unfold difA
    rw [if_neg (by omega), Nat.add_sub_cancel]
    omega
theorem accL_ix (d : List Int) {i : Nat} (hi : i < d.length) : ix (accL d) i = accN d (i + 1) := by simp [ix, accL, accP, hi]
theorem accL_difs (s : List Int) : accL (difs s) = s := ix_ext (by rw [accL_len, difs_len]) fun k hk => by
  rw [accL_len, difs_len] at hk
  rw [accL_ix _ (by rw [difs_len]; exact hk), acc_dif s k hk]
theorem difs_accL (d : List Int) : difs (accL d) = d := ix_ext (by rw [difs_len, accL_len]) fun k hk => by
  rw [difs_len, accL_len] at hk
  rw [difs_ix _ (by rw [accL_len]; exact hk)]
  unfold difA
  rw [accL_ix _ hk]
  cases k with
  | zero => simp [accN]
  | succ k =>
    rw [if_neg (by omega), Nat.add_sub_cancel, accL_ix _ (by omega), accN]
    omega
theorem same_acc (s d : List Int) : decide (d = difs s) = decide (s = accL d) := by
  rw [decide_eq_decide]
  constructor
  · rintro rfl; exact (accL_difs s).symm
  · rintro rfl; exact (difs_accL d).symm
/-- is it a text of a wave form -/
def isV (s : List Int) (t : Tx) : Bool := vldW s && (match deV t with | some (d, _, _) => decide (d = difs s) | none => false)
def isE (s : List Int) (t : Tx) : Int := if vldW s = true then (if vbB t = true then 0 else 31) else 30
set_option maxRecDepth 100000 in
set_option maxHeartbeats 4000000 in
theorem IsText_any (A : Option Addr) (c : Nat) (s : List Int) (t : Tx) (w : World) (hr : RdI w w.heap.size A s) (hl : s.length ≤ 1000000) (h : t.length ≤ 1000000) :
    Calls Tryd.prog 14 #[.slice A s.length c, .string ⟨t.toArray⟩] w fun e w' => e = .returned (.tuple #[.bool (isV s t), .int .i64 (isE s t)]) ∧ Below w.heap.size w w' := by
  have HV := Lib.hid (Valid_any A c s w hr hl)
  have HB := Lib.hid (fun W => ValidBits_any t W h)
  cases hv : vldW s
  · rw [show isV s t = false by unfold isV; rw [hv]; rfl, show isE s t = 30 by unfold isE; rw [hv]; rfl]
    rw [hv] at HV
    clear hr
    generalize s.length = n at *
    go_enter Tryd.func14, Tryd.ntmps14
    go_wp2_with (go_at_call 20; refine HV.out.mono ?_; rintro e w1 ⟨rfl, h1⟩)
    go_ret2
    exact ⟨by simp, h1⟩
  · rw [hv] at HV
    cases hb : vbB t
    · rw [show isV s t = false by unfold isV deV; rw [hv, hb]; rfl, show isE s t = 31 by unfold isE; rw [hv, hb]; rfl]
      rw [hb] at HB
      clear hr
      generalize s.length = n at *
      go_enter Tryd.func14, Tryd.ntmps14
      go_wp2_with (first
        | (go_at_call 20; refine HV.out.mono ?_; rintro e w1 ⟨rfl, h1⟩)
        | (go_at_call 35; refine (HB.out _).mono ?_; rintro e w2 ⟨rfl, h2⟩))
      go_ret2
      exact ⟨by simp, h1.trs h2⟩
    · rw [show isE s t = 0 by unfold isE; rw [hv, hb]; rfl]
      have HRD := Lib.hid (fun W => reading_any t W (vbB_iff.1 hb).2 (vbB_iff.1 hb).1)
      unfold RdQ at HRD
      rw [hb] at HB
      cases ho : deO t with
      | none =>
        rw [show isV s t = false by unfold isV deV; rw [hv, hb, if_pos rfl, ho]; rfl]
        have HN : Hid (∀ W, Calls Tryd.prog 36 #[.string ⟨t.toArray⟩] W fun e w' => Below W.heap.size W w' ∧ ∃ A n c A2 n2 c2 ch, e = .returned (.tuple #[.agg #[.slice A n c, .slice A2 n2 c2, .int .i64 ch], .bool false])) := Lib.hid fun W => (HRD.out W).mono fun e w' ⟨hb, A, n, c, A2, n2, c2, ch, ok, he, hor⟩ => by
          rcases hor with ⟨hok, -⟩ | ⟨-, d, ws, m, h', -⟩
          · subst hok; exact ⟨hb, A, n, c, A2, n2, c2, ch, he⟩
          · rw [ho] at h'; cases h'
        clear hr HRD ho
        generalize s.length = n at *
        go_enter Tryd.func14, Tryd.ntmps14
        go_wp2_with (first
          | (go_at_call 20; refine HV.out.mono ?_; rintro e w1 ⟨rfl, h1⟩)
          | (go_at_call 35; refine (HB.out _).mono ?_; rintro e w2 ⟨rfl, h2⟩)
          | (go_at_call 36; refine (HN.out _).mono ?_; rintro e w3 ⟨h3, A5, n5, c5, A6, n6, c6, ch6, rfl⟩))
        go_quiet (fail)
        go_wp2
        go_ret2
        exact ⟨by simp, (((h1.trs h2).trs h3).trs (below_alloc _ _)).drewsN _⟩
      | some r =>
        obtain ⟨d, ws, m⟩ := r
        rw [show isV s t = decide (d = difs s) by unfold isV deV; rw [hv, hb, if_pos rfl, ho]; rfl]
        obtain ⟨hv1, hv2, hv3⟩ := vldW_iff.1 hv
        have HN : Hid (∀ W, Calls Tryd.prog 36 #[.string ⟨t.toArray⟩] W fun e w' => Below W.heap.size W w' ∧ ∃ A c A2 c2, e = .returned (.tuple #[.agg #[.slice A d.length c, .slice A2 ws.length c2, .int .i64 (m : Int)], .bool true]) ∧ d.length ≤ 1000 ∧ RdI w' w'.heap.size A d) := Lib.hid fun W => (HRD.out W).mono fun e w' ⟨hb, A, n, c, A2, n2, c2, ch, ok, he, hor⟩ => by
          rcases hor with ⟨-, h'⟩ | ⟨hok, d', ws', m', h', a, b, c', hl, o1, o2⟩
          · rw [ho] at h'; cases h'
          · rw [ho] at h'
            injection h' with h'
            injection h' with e1 h'
            injection h' with e2 e3
            subst e1; subst e2; subst e3; subst a; subst b; subst c'; subst hok
            exact ⟨hb, A, c, A2, c2, he, hl, o1.rdA⟩
        have HD := Lib.hid (fun W (hW : Below w.heap.size w W) => differences_any A c s W (hr.on hW) (by omega) hv3)
        have hdl := difs_len s
        have HEQ := Lib.hid (fun A c A2 c2 W h1 h2 (hl : d.length ≤ 1000000) => EqualG_any A c A2 c2 d (difs s) W h1 h2 hl (by omega))
        unfold LisQ at HD
        rw [hdl] at HD HEQ
        clear hr HRD ho hdl hv hb hv1 hv2 hv3
        generalize decide (d = difs s) = res at *
        generalize difs s = ds at *
        generalize s.length = n at *
        generalize d.length = nd at *
        generalize ws.length = nw at *
        go_enter Tryd.func14, Tryd.ntmps14
        go_wp2_with (first
          | (go_at_call 20; refine HV.out.mono ?_; rintro e w1 ⟨rfl, h1⟩)
          | (go_at_call 35; refine (HB.out _).mono ?_; rintro e w2 ⟨rfl, h2⟩)
          | (go_at_call 36; refine (HN.out _).mono ?_; rintro e w3 ⟨h3, A5, c5, A6, c6, rfl, hl5, r5⟩; replace r5 := Lib.hid r5))
        have y5 := Box.new w3 55 #[.slice A5 nd c5, .slice A6 nw c6, .int .i64 (m : Int)]
        have hb5 := below_alloc w3 (.cells #[.slice A5 nd c5, .slice A6 nw c6, .int .i64 (m : Int)] 55)
        have HA := Lib.hid (((h1.trs h2).trs h3).trs hb5)
        have R5 := Lib.hid (r5.out.on hb5)
        generalize w3.alloc (.cells #[.slice A5 nd c5, .slice A6 nw c6, .int .i64 (m : Int)] 55) = w5 at *
        clear h1 h2 h3 hb5 r5
        generalize w3.heap.size = g at *
        have HK := Lib.hid (fun W (hW : Below w5.heap.size w5 W) => (⟨hW, (y5.on hW).cell 0⟩ : Below w5.heap.size w5 W ∧ W.cell? ⟨g, 0, none⟩ = some (.slice A5 nd c5)))
        clear y5
        go_region_held3 (fun w' => Below w5.heap.size w5 w' ∧ w'.cell? ⟨g, 0, none⟩ = some (.slice A5 nd c5))
          (first | exact HK.out _ h7 | exact HK.out _ h6 | exact HK.out _ ((Below.refl _ _).drewsN 1))
          (first
            | (go_at_call 37; refine (HEQ.out _ _ _ _ _ (R5.out.on h6) hr6.out (by omega)).mono ?_; rintro e w7 ⟨rfl, h7⟩; replace h7 := h6.trs h7)
            | (go_at_call 23; refine (HD.out _ (HA.out.trs ((Below.refl _ _).drewsN 1))).mono ?_; rintro e w6 ⟨h6, A7, c7, rfl, hr6⟩; replace hr6 := Lib.hid hr6; replace h6 := ((Below.refl w5.heap.size w5).drewsN 1).trs h6))
        all_goals
          go_wp2
          go_ret2
          exact ⟨by simp, HA.out.trs h7⟩
set_option maxRecDepth 100000 in
set_option maxHeartbeats 4000000 in
theorem refIsText_any (A : Option Addr) (c : Nat) (s : List Int) (t : Tx) (w : World) (hr : RdI w w.heap.size A s) (hl : s.length ≤ 1000000) (h : t.length ≤ 1000000) :
    Calls Tryd.prog 12 #[.slice A s.length c, .string ⟨t.toArray⟩] w fun e w' => e = .returned (.tuple #[.bool (isV s t), .int .i64 (isE s t)]) ∧ Below w.heap.size w w' := by
  have HV := Lib.hid (refValid_any A c s w hr hl)
  have HDC := Lib.hid (fun W => refDecode_any t W h)
  unfold LisE at HDC
  cases hv : vldW s
  · rw [show isV s t = false by unfold isV; rw [hv]; rfl, show isE s t = 30 by unfold isE; rw [hv]; rfl]
    rw [hv] at HV
    clear hr
    generalize s.length = n at *
    go_enter Tryd.func12, Tryd.ntmps12
    go_wp2_with (go_at_call 6; refine HV.out.mono ?_; rintro e w1 ⟨rfl, h1⟩)
    go_ret2
    exact ⟨by simp, h1⟩
  · rw [hv] at HV
    rcases de_cases t with ⟨hb, hE, -⟩ | ⟨hb, ho, hE, -⟩ | ⟨d, ws, m, hb, ho, hE, hd, -⟩
    · rw [show isV s t = false by unfold isV deV; rw [hv, hb]; rfl, show isE s t = 31 by unfold isE; rw [hv, hb]; rfl]
      rw [hE] at HDC
      clear hr hE
      generalize accL (dD t) = al at *
      generalize s.length = n at *
      go_enter Tryd.func12, Tryd.ntmps12
      go_wp2_with (first
        | (go_at_call 6; refine HV.out.mono ?_; rintro e w1 ⟨rfl, h1⟩)
        | (go_at_call 32; refine (HDC.out _).mono ?_; rintro e w2 ⟨h2, A5, c5, rfl, r5⟩; clear r5))
      go_ret2
      exact ⟨by simp, h1.trs h2⟩
    · rw [show isV s t = false by unfold isV deV; rw [hv, hb, if_pos rfl, ho]; rfl, show isE s t = 0 by unfold isE; rw [hv, hb]; rfl]
      rw [hE] at HDC
      clear hr hE ho
      generalize accL (dD t) = al at *
      generalize s.length = n at *
      go_enter Tryd.func12, Tryd.ntmps12
      go_wp2_with (first
        | (go_at_call 6; refine HV.out.mono ?_; rintro e w1 ⟨rfl, h1⟩)
        | (go_at_call 32; refine (HDC.out _).mono ?_; rintro e w2 ⟨h2, A5, c5, rfl, r5⟩; clear r5))
      go_ret2
      exact ⟨by simp, h1.trs h2⟩
    · rw [show isV s t = decide (s = accL d) by rw [← same_acc]; unfold isV deV; rw [hv, hb, if_pos rfl, ho]; rfl, show isE s t = 0 by unfold isE; rw [hv, hb]; rfl]
      have hal : (accL d).length ≤ 1000000 := by rw [accL_len, ← hd]; exact dD_len t
      have HSI := Lib.hid (fun A2 c2 W (hW : Below w.heap.size w W) h2 => SameIntsG_any A c A2 c2 s (accL d) W (hr.on hW) h2 hl hal)
      rw [hE, hd] at HDC
      clear hr hE ho hal hd
      generalize decide (s = accL d) = res at *
      generalize accL d = al at *
      generalize s.length = n at *
      go_enter Tryd.func12, Tryd.ntmps12
      go_wp2_with (first
        | (go_at_call 6; refine HV.out.mono ?_; rintro e w1 ⟨rfl, h1⟩)
        | (go_at_call 32; refine (HDC.out _).mono ?_; rintro e w2 ⟨h2, A5, c5, rfl, r5⟩; replace r5 := Lib.hid r5)
        | (go_at_call 16; refine (HSI.out _ _ _ (h1.trs h2) r5.out).mono ?_; rintro e w3 ⟨rfl, h3⟩))
      go_ret2
      exact ⟨by simp, (h1.trs h2).trs h3⟩
end Go.Proofs.YtkjiancdhaocaaaDoor
