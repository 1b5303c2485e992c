/- Walks over the reference of chapter wave: decode, Decode, Widths, Changes; IsText of both. -/
import Derived.Test.YteodljaphkpimaaDoorWvQe
namespace Go.Proofs.YteodljaphkpimaaDoor
open Go.RowKit Go.Shelf
set_option linter.unusedSimpArgs false
set_option linter.unusedVariables false
attribute [local go_sem] Oper.semAt_some

/-- what the reference's decode hands back -/
def DcQ (t : Tx) (w : World) (e : Ending) (w' : World) : Prop := Below w.heap.size w w' ∧ ∃ A n c A2 n2 c2, e = .returned (.tuple #[.slice A n c, .slice A2 n2 c2, .int .i64 (dC t : Nat), .int .i64 (deE t)]) ∧ n = (accL (dD t)).length ∧ n2 = (dW t).length ∧ RdI w' w'.heap.size A (accL (dD t)) ∧ RdI w' w'.heap.size A2 (dW t)
theorem DcQ.bad {t : Tx} {w : World} (hE : deE t ≠ 0) : Hid (∀ w', Below w.heap.size w w' → DcQ t w (.returned (.tuple #[.slice none 0 0, .slice none 0 0, .int .i64 0, .int .i64 (deE t)])) w') := Lib.hid fun w' hb =>
  ⟨hb, none, 0, 0, none, 0, 0, by rw [(deE_bad hE).2.2]; rfl, by rw [(deE_bad hE).1]; rfl, by rw [(deE_bad hE).2.1]; rfl, by rw [(deE_bad hE).1]; exact .inl rfl, by rw [(deE_bad hE).2.1]; exact .inl rfl⟩
set_option maxRecDepth 100000 in
set_option maxHeartbeats 4000000 in
theorem refDec_any (t : Tx) (w : World) (h : t.length ≤ 1000000) : Calls Tryd.prog 70 #[.string ⟨t.toArray⟩] w (DcQ t w) := by
  have HV := Lib.hid (fun W => refValidBits_any t W h)
  have HBD : deE t ≠ 0 → Hid (∀ w', Below w.heap.size w w' → DcQ t w (.returned (.tuple #[.slice none 0 0, .slice none 0 0, .int .i64 0, .int .i64 (deE t)])) w') := DcQ.bad
  have HOK : ∀ d ws m, deO t = some (d, ws, m) → vbB t = true → Hid (∀ w' A c A2 c2, Below w.heap.size w w' → RdI w' w'.heap.size A (accL d) → RdI w' w'.heap.size A2 ws → DcQ t w (.returned (.tuple #[.slice A (accL d).length c, .slice A2 ws.length c2, .int .i64 (m : Int), .int .i64 0])) w') := fun d ws m ho hv => Lib.hid fun w' A c A2 c2 hb h1 h2 => by
    rcases de_cases t with ⟨hv', -⟩ | ⟨-, ho', -⟩ | ⟨d', ws', m', -, ho', hE, hd, hw, hc⟩
    · rw [hv] at hv'; cases hv'
    · rw [ho] at ho'; cases ho'
    · rw [ho] at ho'
      injection ho' with e
      injection e with e1 e
      injection e with e2 e3
      subst e1; subst e2; subst e3
      exact ⟨hb, A, _, c, A2, _, c2, by rw [hE, hc], by rw [hd], by rw [hw], by rw [hd]; exact h1, by rw [hw]; exact h2⟩
  have hE31 : vbB t = false → deE t = 31 := fun hv => by unfold deE; rw [hv]; rfl
  have hE3 : vbB t = true → deO t = none → deE t = 3 := fun hv ho => by unfold deE; rw [hv, ho]; rfl
  generalize hRR : DcQ t w = R at *
  clear hRR
  cases hv : vbB t
  · have HX := HBD (by rw [hE31 hv]; decide)
    rw [hE31 hv] at HX
    rw [hv] at HV
    clear HBD HOK hE31 hE3 hv
    go_enter Tryd.func70, Tryd.ntmps70
    go_wp2_with (first
      | (go_at_call 23; refine (HV.out _).mono ?_; rintro e w1 ⟨rfl, rfl⟩))
    refine bodyPost_ret (v := .tuple #[.slice none 0 0, .slice none 0 0, .int .i64 0, .int .i64 31]) (by simp [results, Tryd.results70, go_sem]) rfl (HX.out _ (Below.refl _ _))
  · have HRD := Lib.hid (fun W => refRead_any t W (vbB_iff.1 hv).2 (vbB_iff.1 hv).1)
    unfold RfQ at HRD
    rw [hv] at HV
    cases hrd : rdF false t 2 with
    | none =>
      have ho := deO_none hrd
      have HX := HBD (by rw [hE3 hv ho]; decide)
      rw [hE3 hv ho] at HX
      have HN : Hid (∀ W, Calls Tryd.prog 92 #[.string ⟨t.toArray⟩] W fun e w' => Below W.heap.size W w' ∧ ∃ A n c A2 n2 c2 ch, e = .returned (.tuple #[.slice A n c, .slice A2 n2 c2, .int .i64 ch, .bool false])) := Lib.hid fun W => (HRD.out W).mono fun e w' ⟨hb, A, n, c, A2, n2, c2, ch, ok, he, hor⟩ => by
        rcases hor with ⟨hok, -⟩ | ⟨-, d, ws, m, h', -⟩
        · subst hok; exact ⟨hb, A, n, c, A2, n2, c2, ch, he⟩
        · rw [hrd] at h'; cases h'
      clear HBD HOK hE31 hE3 hv hrd ho HRD
      go_enter Tryd.func70, Tryd.ntmps70
      go_wp2_with (first
        | (go_at_call 23; refine (HV.out _).mono ?_; rintro e w1 ⟨rfl, rfl⟩)
        | (go_at_call 92; refine (HN.out _).mono ?_; rintro e w2 ⟨h2, A5, n5, c5, A6, n6, c6, ch6, rfl⟩))
      refine bodyPost_ret (v := .tuple #[.slice none 0 0, .slice none 0 0, .int .i64 0, .int .i64 3]) (by simp [results, Tryd.results70, go_sem]) rfl (HX.out _ h2)
    | some r =>
      obtain ⟨d, ws, m, lo⟩ := r
      have hdo := deO_some hrd
      by_cases hc : smpOk d = true ∧ lo = false
      · rw [if_pos hc] at hdo
        obtain ⟨hs, rfl⟩ := hc
        have HX := HOK d ws m hdo hv
        have HSM := Lib.hid (fun A c W hr (hl : d.length ≤ 1000000) => refSamples_any A c d W hr hl)
        rw [(smpE_ok hs).1, (smpE_ok hs).2] at HSM
        unfold LisE at HSM
        have HN : Hid (∀ W, Calls Tryd.prog 92 #[.string ⟨t.toArray⟩] W fun e w' => Below W.heap.size W w' ∧ ∃ A c A2 c2, e = .returned (.tuple #[.slice A d.length c, .slice A2 ws.length c2, .int .i64 (m : Int), .bool true]) ∧ d.length ≤ 1000 ∧ RdI w' w'.heap.size A d ∧ RdI w' w'.heap.size A2 ws) := Lib.hid fun W => (HRD.out W).mono fun e w' ⟨hb, A, n, c, A2, n2, c2, ch, ok, he, hor⟩ => by
          rcases hor with ⟨-, h'⟩ | ⟨hok, d', ws', m', h', -, a, b, c', hl, h1, h2⟩
          · rw [h'.deO] at hdo; cases hdo
          · rw [hrd] at h'
            injection h' with h'
            injection h' with e1 h'
            injection h' with e2 h'
            injection h' with e3 h'
            subst e1; subst e2; subst e3; subst a; subst b; subst c'; subst hok
            exact ⟨hb, A, c, A2, c2, he, hl, h1, h2⟩
        have hal := accL_len d
        have HAL := Lib.hid hal
        clear HBD HOK hE31 hE3 hv hrd hdo HRD hs hal
        generalize accL d = al at *
        rw [HAL.out] at HX HSM
        generalize d.length = nd at *
        generalize ws.length = nw at *
        go_enter Tryd.func70, Tryd.ntmps70
        go_wp2_with (first
          | (go_at_call 23; refine (HV.out _).mono ?_; rintro e w1 ⟨rfl, rfl⟩)
          | (go_at_call 92; refine (HN.out _).mono ?_; rintro e w2 ⟨h2, A5, c5, A6, c6, rfl, hl5, r5, r6⟩; replace r5 := Lib.hid r5; replace r6 := Lib.hid r6)
          | (go_at_call 19; refine (HSM.out _ _ _ r5.out (by omega)).mono ?_; rintro e w3 ⟨h3, A7, c7, rfl, r7⟩; replace r7 := Lib.hid r7))
        refine bodyPost_ret (v := .tuple #[.slice A7 nd c7, .slice A6 nw c6, .int .i64 (m : Int), .int .i64 0]) (by simp [results, Tryd.results70, go_sem]) rfl (HX.out _ _ _ _ _ (h2.trs h3) r7.out (r6.out.on h3))
      · rw [if_neg hc] at hdo
        have HX := HBD (by rw [hE3 hv hdo]; decide)
        rw [hE3 hv hdo] at HX
        cases lo
        · have hs : smpOk d = false := by
            cases hs : smpOk d with
            | false => rfl
            | true => exact absurd ⟨hs, rfl⟩ hc
          by_cases hd0 : d = []
          · have HN : Hid (∀ W, Calls Tryd.prog 92 #[.string ⟨t.toArray⟩] W fun e w' => Below W.heap.size W w' ∧ ∃ A n c A2 n2 c2 ch, e = .returned (.tuple #[.slice A n c, .slice A2 n2 c2, .int .i64 ch, .bool false])) := Lib.hid fun W => (HRD.out W).mono fun e w' ⟨hb, A, n, c, A2, n2, c2, ch, ok, he, hor⟩ => by
              rcases hor with ⟨hok, -⟩ | ⟨-, d', ws', m', h', hne, -⟩
              · subst hok; exact ⟨hb, A, n, c, A2, n2, c2, ch, he⟩
              · rw [hrd] at h'; injection h' with h'; injection h' with e1 h'; exact absurd (e1.symm.trans hd0) hne
            clear HBD HOK hE31 hE3 hv hrd hdo HRD hc hs
            go_enter Tryd.func70, Tryd.ntmps70
            go_wp2_with (first
              | (go_at_call 23; refine (HV.out _).mono ?_; rintro e w1 ⟨rfl, rfl⟩)
              | (go_at_call 92; refine (HN.out _).mono ?_; rintro e w2 ⟨h2, A5, n5, c5, A6, n6, c6, ch6, rfl⟩))
            refine bodyPost_ret (v := .tuple #[.slice none 0 0, .slice none 0 0, .int .i64 0, .int .i64 3]) (by simp [results, Tryd.results70, go_sem]) rfl (HX.out _ h2)
          · have HSM := Lib.hid (fun A c W hr (hl : d.length ≤ 1000000) => refSamples_any A c d W hr hl)
            rw [(smpE_no hs).1, (smpE_no hs).2] at HSM
            unfold LisE at HSM
            have HN : Hid (∀ W, Calls Tryd.prog 92 #[.string ⟨t.toArray⟩] W fun e w' => Below W.heap.size W w' ∧ ∃ A c A2 c2, e = .returned (.tuple #[.slice A d.length c, .slice A2 ws.length c2, .int .i64 (m : Int), .bool true]) ∧ d.length ≤ 1000 ∧ RdI w' w'.heap.size A d) := Lib.hid fun W => (HRD.out W).mono fun e w' ⟨hb, A, n, c, A2, n2, c2, ch, ok, he, hor⟩ => by
              rcases hor with ⟨-, h' | ⟨d', ws', m', lo', h', h''⟩⟩ | ⟨hok, d', ws', m', h', -, a, b, c', hl, h1, h2⟩
              · rw [hrd] at h'; cases h'
              · rw [hrd] at h'
                injection h' with h'
                injection h' with e1 h'
                injection h' with e2 h'
                injection h' with e3 e4
                rcases h'' with h'' | h''
                · exact absurd (e1.trans h'') hd0
                · rw [← e4] at h''; cases h''
              · rw [hrd] at h'
                injection h' with h'
                injection h' with e1 h'
                injection h' with e2 h'
                injection h' with e3 h'
                subst e1; subst e2; subst e3; subst a; subst b; subst c'; subst hok
                exact ⟨hb, A, c, A2, c2, he, hl, h1⟩
            clear HBD HOK hE31 hE3 hv hrd hdo HRD hs hc hd0
            generalize d.length = nd at *
            generalize ws.length = nw at *
            go_enter Tryd.func70, Tryd.ntmps70
            go_wp2_with (first
              | (go_at_call 23; refine (HV.out _).mono ?_; rintro e w1 ⟨rfl, rfl⟩)
              | (go_at_call 92; refine (HN.out _).mono ?_; rintro e w2 ⟨h2, A5, c5, A6, c6, rfl, hl5, r5⟩; replace r5 := Lib.hid r5)
              | (go_at_call 19; refine (HSM.out _ _ _ r5.out (by omega)).mono ?_; rintro e w3 ⟨h3, A7, c7, rfl, r7⟩; clear r7))
            refine bodyPost_ret (v := .tuple #[.slice none 0 0, .slice none 0 0, .int .i64 0, .int .i64 3]) (by simp [results, Tryd.results70, go_sem]) rfl (HX.out _ (h2.trs h3))
        · have HN : Hid (∀ W, Calls Tryd.prog 92 #[.string ⟨t.toArray⟩] W fun e w' => Below W.heap.size W w' ∧ ∃ A n c A2 n2 c2 ch, e = .returned (.tuple #[.slice A n c, .slice A2 n2 c2, .int .i64 ch, .bool false])) := Lib.hid fun W => (HRD.out W).mono fun e w' ⟨hb, A, n, c, A2, n2, c2, ch, ok, he, hor⟩ => by
            rcases hor with ⟨hok, -⟩ | ⟨-, d', ws', m', h', -⟩
            · subst hok; exact ⟨hb, A, n, c, A2, n2, c2, ch, he⟩
            · rw [hrd] at h'; injection h' with h'; injection h' with _ h'; injection h' with _ h'; injection h' with _ h'; cases h'
          clear HBD HOK hE31 hE3 hv hrd hdo HRD hc
          go_enter Tryd.func70, Tryd.ntmps70
          go_wp2_with (first
            | (go_at_call 23; refine (HV.out _).mono ?_; rintro e w1 ⟨rfl, rfl⟩)
            | (go_at_call 92; refine (HN.out _).mono ?_; rintro e w2 ⟨h2, A5, n5, c5, A6, n6, c6, ch6, rfl⟩))
          refine bodyPost_ret (v := .tuple #[.slice none 0 0, .slice none 0 0, .int .i64 0, .int .i64 3]) (by simp [results, Tryd.results70, go_sem]) rfl (HX.out _ h2)
end Go.Proofs.YteodljaphkpimaaDoor
