/- Walks over package wave and its reference: Decode, Widths, Changes. -/
import Derived.Test.YteodljaphkpimaaDoorWvQd
namespace Go.Proofs.YteodljaphkpimaaDoor
open Go.RowKit Go.Shelf
set_option linter.unusedSimpArgs false
set_option linter.unusedVariables false
attribute [local go_sem] Oper.semAt_some

theorem deE_ok {t : Tx} (h : deE t = 0) : ∃ ws m, deO t = some (dD t, ws, m) ∧ smpOk (dD t) = true := by
  rcases de_cases t with ⟨-, hE, -⟩ | ⟨-, -, hE, -⟩ | ⟨d, ws, m, -, ho, -, hd, hw, hc⟩
  · rw [hE] at h; cases h
  · rw [hE] at h; cases h
  · rw [hd]; exact ⟨ws, m, ho, (deO_ok ho).1⟩
theorem deE_bad {t : Tx} (h : deE t ≠ 0) : dD t = [] ∧ dW t = [] ∧ dC t = 0 := by
  rcases de_cases t with ⟨-, hE, hd, hw, hc⟩ | ⟨-, -, hE, hd, hw, hc⟩ | ⟨d, ws, m, -, ho, hE, hd, hw, hc⟩
  · exact ⟨hd, hw, hc⟩
  · exact ⟨hd, hw, hc⟩
  · exact absurd hE h
theorem accL_nil : accL [] = [] := rfl
theorem OwnI.rdA {w : World} {B : Nat} {e : TypeId} {A : Option Addr} {n c : Nat} {l : List Int} (h : OwnI w B e (.slice A n c) l) : RdI w w.heap.size A l := by
  obtain ⟨A', c', e', hr⟩ := h.rd
  injection e' with e1
  subst e1
  exact hr
theorem dD_len (t : Tx) : (dD t).length ≤ 1000000 := by
  by_cases h : deE t = 0
  · obtain ⟨ws, m, -, hs⟩ := deE_ok h
    unfold smpOk at hs
    simp only [Bool.and_eq_true, decide_eq_true_eq] at hs
    omega
  · rw [(deE_bad h).1]; simp
theorem samples_ok (A : Option Addr) (c : Nat) (l : List Int) (w : World) (hr : RdI w w.heap.size A l) (hl : l.length ≤ 1000000) (hs : smpOk l = true) :
    Calls Tryd.prog 51 #[.slice A l.length c] w fun e w' => Below w.heap.size w w' ∧ ∃ A c, e = .returned (.tuple #[.slice A l.length c, .bool true]) ∧ RdI w' w'.heap.size A (accL l) :=
  (samples_any A c l w hr hl).mono fun e w' ⟨hb, A, n, c, he, hy⟩ => by
    obtain ⟨hn, hr⟩ := hy hs
    subst hn
    rw [hs] at he
    exact ⟨hb, A, c, he, hr⟩
set_option maxHeartbeats 4000000 in
theorem Decode_any (t : Tx) (w : World) (h : t.length ≤ 1000000) : Calls Tryd.prog 36 #[.string ⟨t.toArray⟩] w (LisE (accL (dD t)) (deE t) w) := by
  have HK := Lib.hid (known_any t w h)
  unfold KnQ at HK
  by_cases hE : deE t = 0
  · obtain ⟨_, _, -, hs⟩ := deE_ok hE
    have HSM := Lib.hid (fun A c W hr => samples_ok A c (dD t) W hr (dD_len t) hs)
    have HX : Hid (∀ w' A c, Below w.heap.size w w' → RdI w' w'.heap.size A (accL (dD t)) → LisE (accL (dD t)) (deE t) w (.returned (.tuple #[.slice A (dD t).length c, .int .i64 0])) w') := Lib.hid fun w' A c hb hr => ⟨hb, A, c, by rw [accL_len, hE], hr⟩
    rw [hE] at HK
    generalize LisE (accL (dD t)) (deE t) w = R at *
    clear hE hs
    generalize accL (dD t) = al at *
    generalize dD t = d at *
    generalize dW t = ws at *
    generalize dC t = m at *
    generalize d.length = nd at *
    generalize ws.length = nw at *
    go_enter Tryd.func36, Tryd.ntmps36
    go_wp2_with (first
      | (go_at_call 69; refine HK.out.mono ?_; rintro e w1 ⟨h1, A1, c1, A2, c2, rfl, o1, o2⟩; replace o1 := Lib.hid o1; clear o2)
      | (go_at_call 51; refine (HSM.out _ _ _ (o1.out.kept (below_alloc _ _)).rdA).mono ?_; rintro e w3 ⟨h3, A3, c3, rfl, hr3⟩; have HR3 := Lib.hid hr3; clear hr3))
    exact HX.out _ _ _ ((h1.trs (below_alloc _ _)).trs h3) HR3.out
  · have HX : Hid (∀ w', Below w.heap.size w w' → LisE (accL (dD t)) (deE t) w (.returned (.tuple #[.slice none 0 0, .int .i64 (deE t)])) w') := Lib.hid fun w' hb => by rw [(deE_bad hE).1]; exact LisE.none hb
    have hE1 : (deE t == 0) = false := beq_eq_false_iff_ne.2 hE
    generalize LisE (accL (dD t)) (deE t) w = R at *
    generalize dD t = d at *
    generalize dW t = ws at *
    generalize dC t = m at *
    generalize d.length = nd at *
    generalize ws.length = nw at *
    generalize deE t = E at *
    go_enter Tryd.func36, Tryd.ntmps36
    go_wp2_with (first
      | (go_at_call 69; refine HK.out.mono ?_; rintro e w1 ⟨h1, A1, c1, A2, c2, rfl, o1, o2⟩; clear o1 o2))
    exact HX.out _ (h1.trs (below_alloc _ _))
set_option maxHeartbeats 4000000 in
theorem Widths_any (t : Tx) (w : World) (h : t.length ≤ 1000000) : Calls Tryd.prog 38 #[.string ⟨t.toArray⟩] w (LisE (dW t) (deE t) w) := by
  have HK := Lib.hid (known_any t w h)
  unfold KnQ at HK
  have HX : Hid (∀ w' A c, Below w.heap.size w w' → RdI w' w'.heap.size A (dW t) → LisE (dW t) (deE t) w (.returned (.tuple #[.slice A (dW t).length c, .int .i64 (deE t)])) w') := Lib.hid fun w' A c hb hr => ⟨hb, A, c, rfl, hr⟩
  generalize LisE (dW t) (deE t) w = R at *
  generalize dD t = d at *
  generalize dW t = ws at *
  generalize dC t = m at *
  generalize d.length = nd at *
  generalize ws.length = nw at *
  generalize deE t = E at *
  go_enter Tryd.func38, Tryd.ntmps38
  go_wp2_with (first
    | (go_at_call 69; refine HK.out.mono ?_; rintro e w1 ⟨h1, A1, c1, A2, c2, rfl, o1, o2⟩; replace o2 := Lib.hid o2; clear o1))
  exact HX.out _ _ _ (h1.trs (below_alloc _ _)) (o2.out.kept (below_alloc _ _)).rdA
set_option maxHeartbeats 4000000 in
theorem Changes_any (t : Tx) (w : World) (h : t.length ≤ 1000000) : Calls Tryd.prog 40 #[.string ⟨t.toArray⟩] w fun e w' => e = .returned (.tuple #[.int .i64 (dC t : Nat), .int .i64 (deE t)]) ∧ Below w.heap.size w w' := by
  have HK := Lib.hid (known_any t w h)
  unfold KnQ at HK
  generalize dD t = d at *
  generalize dW t = ws at *
  generalize dC t = m at *
  generalize d.length = nd at *
  generalize ws.length = nw at *
  generalize deE t = E at *
  go_enter Tryd.func40, Tryd.ntmps40
  go_wp2_with (first
    | (go_at_call 69; refine HK.out.mono ?_; rintro e w1 ⟨h1, A1, c1, A2, c2, rfl, o1, o2⟩; clear o1 o2))
  go_ret2
  exact ⟨by simp, h1.trs (below_alloc _ _)⟩
end Go.Proofs.YteodljaphkpimaaDoor
