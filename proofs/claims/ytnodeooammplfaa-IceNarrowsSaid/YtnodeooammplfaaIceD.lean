/- Walks over package ice and its reference: depth, Dim and loss. -/
import Derived.Test.YtnodeooammplfaaIceC
namespace Go.Proofs.Ytnodeooammplfaa
set_option linter.unusedVariables false
open Go.RowKit

def val (er x : Int) : Int := if er = 0 then x else 0
theorem val_ok {er x : Int} (h : er = 0) : val er x = x := if_pos h
theorem val_no {er x : Int} (h : er ≠ 0) : val er x = 0 := if_neg h
def isB (n : Nat) (l : List Int) : Bool := l.all fun d => btw 0 d (n - 1)
theorem isB_no {n : Nat} {l : List Int} (i : Nat) (hi : i < l.length) (h : btw 0 (ix l i) (n - 1) = false) : isB n l = false := by
  unfold isB
  rw [List.all_eq_false]
  exact ⟨_, ix_mem hi, by rw [h]; simp⟩
theorem isB_yes {n : Nat} {l : List Int} (h : ∀ i, i < l.length → btw 0 (ix l i) (n - 1) = true) : isB n l = true := by
  unfold isB
  rw [List.all_eq_true]
  intro x hx
  obtain ⟨k, hk, rfl⟩ := List.getElem_of_mem hx
  have := h k hk
  simpa [ix, hk] using this

theorem is_any (A A2 : Option Addr) (n c c2 : Nat) (l : List Int) (w : World) (hn : n ≤ 1000000) (hr : RdI w w.heap.size A2 l) (hl : l.length ≤ 1000000) :
    Calls Try.prog 68 #[.slice A n c, .slice A2 l.length c2] w fun e w' => e = .returned (.bool (isB n l)) ∧ w = w' := by
  have HR := Lib.hid hr; clear hr
  have H1 := Lib.hid (isB_no (n := n) (l := l))
  have H2 := Lib.hid (isB_yes (n := n) (l := l))
  generalize isB n l = r at *
  generalize hm : l.length = m at *
  have HM := Lib.hid hm; clear hm
  go_enter Try.func68, Try.ntmps68
  go_wp2
  go_loopg [9] m (fun k s wr => ∃ i : Nat, s = .int .i64 i ∧ i ≤ m ∧ m - i ≤ k ∧ w = wr ∧ Aside (∀ t, t < i → btw 0 (ix l t) (n - 1) = true))
  case atStart => exact ⟨0, rfl, by omega, by omega, rfl, (fun t ht => absurd ht (Nat.not_lt_zero t) : ∀ t, t < 0 → btw 0 (ix l t) (n - 1) = true)⟩
  case round =>
    obtain ⟨i, rfl, hi, hk, rfl, HA⟩ := hrel
    by_cases hlt : i < m
    · obtain ⟨b, o, rfl, hb, c1⟩ := HR.out.at_ (k := i) (by rw [HM.out]; exact hlt)
      cases hp : btw 0 (ix l i) (n - 1)
      all_goals
        have HPI := Lib.hid hp
        go_wp2_with (first | (go_at_call 61; refine (between_any _ _ _ _).mono ?_; rintro e w' ⟨rfl, rfl⟩) | (go_at_call 60; refine (depth_any _ _ _ _ hn).mono ?_; rintro e w' ⟨rfl, rfl⟩))
      · go_ret
        exact ⟨ret_bool (H1.out i hlt HPI.out).symm, rfl⟩
      · go_roundg (m - (i + 1))
        case measure => omega
        case rel => exact ⟨i + 1, by go_num, by omega, by omega, rfl, fun t ht => by
          rcases Nat.lt_succ_iff_lt_or_eq.1 ht with h | rfl
          · exact HA.out t h
          · exact HPI.out⟩
    · obtain rfl : i = m := by omega
      go_wp2
      go_ret
      exact ⟨ret_bool (H2.out HA.out).symm, rfl⟩

theorem loss_any (A : Option Addr) (c : Nat) (l : List Int) (i j : Int) (w : World) (hr : RdI w w.heap.size A l) (hl : l.length ≤ 1000000) (hi0 : 0 ≤ i) (hi : i < l.length) (hj0 : 0 ≤ j) (hj : j < l.length)
    (hv : ∀ k, 0 ≤ ix l k ∧ ix l k ≤ 60000) :
    Calls Try.prog 69 #[.slice A l.length c, .int .i64 i, .int .i64 j] w fun e w' => e = .returned (.int .i64 (lossI l i.toNat j.toNat)) ∧ ∃ n, w' = w.drewN n := by
  obtain ⟨i, rfl⟩ := Int.eq_ofNat_of_zero_le hi0
  obtain ⟨j, rfl⟩ := Int.eq_ofNat_of_zero_le hj0
  simp only [Int.toNat_natCast]
  obtain ⟨b, o, rfl, hb, ci⟩ := hr.at_ (k := i) (by omega)
  obtain ⟨b', o', he, _, cj⟩ := hr.at_ (k := j) (by omega)
  injection he with he
  injection he with e1 e2 _
  subst e1; subst e2
  clear hr
  have vi := hv i
  have vj := hv j
  have HL := Lib.hid (show lossI l i j = max (ix l i - ix l j) (ix l j - ix l i) from rfl)
  clear hv
  generalize l.length = n at *
  go_enter Try.func69, Try.ntmps69
  go_wp2
  go_quiet (fail)
  go_wp2
  all_goals
    go_ret
    exact ⟨ret_int (by rw [HL.out]; omega), _, rfl⟩

/-- what is asked of a closure of a column -/
def PredC (g : Nat) (lb : Array Value) (l : List Int) (rt : Bool) (w : World) : Prop :=
  ∀ (W : World) (A : Option Addr) (c : Nat), Below w.heap.size w W → RdI W W.heap.size A l → Calls Try.prog g (#[.slice A l.length c] ++ lb) W fun e w' => e = .returned (.bool rt) ∧ Below W.heap.size W w'

def OpenedPost (L : List (Int × Int)) (rt : Bool) (w : World) (e : Ending) (w' : World) : Prop :=
  Below w.heap.size w w' ∧ ((gate (vld L) rt ≠ 0 ∧ e = .returned (.tuple #[.slice none 0 0, .int .i64 (gate (vld L) rt)])) ∨
    (vld L = true ∧ rt = true ∧ ∃ A c, e = .returned (.tuple #[.slice A (cum (mets L)).length c, .int .i64 0]) ∧ RdI w' w'.heap.size A (cum (mets L))))

theorem opened_any (g : Nat) (lb : Array Value) (A : Option Addr) (c : Nat) (L : List (Int × Int)) (rt : Bool) (w : World) (hr : RdP w w.heap.size A L) (hl : L.length ≤ 1125899906842624)
    (eg : ∀ args w, (callFunc g args).run Try.prog w = .ok (.enter g args) w) (hp : vld L = true → PredC g lb (cum (mets L)) rt w) :
    Calls Try.prog 65 #[.slice A L.length c, .func (.func g) #[] lb] w (OpenedPost L rt w) := by
  have HO := Lib.hid (open_any A c L w hr hl)
  have HP := Lib.hid hp
  have H1 : Hid (∀ w', Below w.heap.size w w' → vld L = false → OpenedPost L rt w (.returned (.tuple #[.slice none 0 0, .int .i64 40])) w') := by
    intro w' hb hv
    refine ⟨hb, .inl ⟨?_, ?_⟩⟩ <;> rw [gate_bad hv]
    decide
  have H2 : Hid (∀ w', Below w.heap.size w w' → vld L = true → rt = false → OpenedPost L rt w (.returned (.tuple #[.slice none 0 0, .int .i64 2])) w') := by
    intro w' hb hv hrt
    refine ⟨hb, .inl ⟨?_, ?_⟩⟩ <;> rw [gate_arg hv hrt]
    decide
  have H3 : Hid (∀ w' A' c', Below w.heap.size w w' → vld L = true → rt = true → RdI w' w'.heap.size A' (cum (mets L)) → OpenedPost L rt w (.returned (.tuple #[.slice A' (cum (mets L)).length c', .int .i64 0])) w') := by
    intro w' A' c' hb hv hrt h
    exact ⟨hb, .inr ⟨hv, hrt, A', c', rfl, h⟩⟩
  clear hp hr
  generalize L.length = n at *
  have HRT : rt = true ∨ rt = false := by cases rt <;> simp
  rcases HRT with hrt | hrt
  all_goals
    have HRT := Lib.hid hrt; clear hrt
    go_enter Try.func65, Try.ntmps65
    go_wp2_with (first
      | (go_at_call 59; refine HO.out.mono ?_; rintro e w1 ⟨hB, ⟨hv, rfl⟩ | ⟨hv, A', c', rfl, hR⟩⟩ <;> (have HV := Lib.hid hv; clear hv))
      | (go_at_fn g; refine (HP.out HV.out _ _ _ hB hR).mono ?_; rintro e w2 ⟨rfl, hB2⟩; rw [HRT.out]))
    all_goals go_ret2
  · exact H1.out _ hB HV.out
  · exact H3.out _ _ _ (hB.trs hB2) HV.out HRT.out (hR.on hB2)
  · exact H1.out _ hB HV.out
  · exact H2.out _ (hB.trs hB2) HV.out HRT.out
end Go.Proofs.Ytnodeooammplfaa
