/- Walks over package alert: what is told of valid tasks; the slack; the first stretch that is overfull; the reference's. -/
import Derived.Test.YtannnbjadbmmcaaAlD
namespace Go.Proofs.Ytannnbjadbmmcaa
open Go.RowKit Go.Shelf
set_option linter.unusedSimpArgs false
set_option linter.unusedVariables false
attribute [local go_sem] Oper.semAt_some

/-- what is told of valid tasks by a closure, or the error -/
def Told (none : Value) (L : List (Int × Int × Int)) (R : Value → World → Prop) (w : World) (e : Ending) (w' : World) : Prop :=
  Below w.heap.size w w' ∧ ((vldT L = false ∧ e = .returned (.tuple #[none, .int .i64 80])) ∨ (vldT L = true ∧ ∃ v, e = .returned (.tuple #[v, .int .i64 0]) ∧ R v w'))
/-- what is asked of the closure -/
def Tells (g : Nat) (lb : Array Value) (R : Value → World → Prop) (w : World) : Prop :=
  ∀ W : World, Below w.heap.size w W → Calls Try.prog g lb W fun e w' => Below W.heap.size W w' ∧ ∃ v, e = .returned v ∧ R v w'

theorem toldS_any (g : Nat) (lb : Array Value) (A : Option Addr) (c : Nat) (L : List (Int × Int × Int)) (R : Value → World → Prop) (w : World) (hr : RdT w w.heap.size A L) (hl : L.length ≤ 1125899906842624)
    (eg : ∀ args w, (callFunc g args).run Try.prog w = .ok (.enter g args) w) (ht : vldT L = true → Tells g lb R w) :
    Calls Try.prog 16 #[.slice A L.length c, .func (.func g) #[] lb] w (Told (.slice none 0 0) L R w) := by
  have HV := Lib.hid (Valid_any A c L w hr hl)
  have H1 : Hid (vldT L = false → ∀ w', Below w.heap.size w w' → Told (.slice none 0 0) L R w (.returned (.tuple #[.slice none 0 0, .int .i64 80])) w') := Lib.hid (fun h w' hb => ⟨hb, .inl ⟨h, rfl⟩⟩)
  have H2 : Hid (vldT L = true → ∀ v w', Below w.heap.size w w' → R v w' → Told (.slice none 0 0) L R w (.returned (.tuple #[v, .int .i64 0])) w') := Lib.hid (fun h v w' hb hv => ⟨hb, .inr ⟨h, v, rfl, hv⟩⟩)
  have HT := Lib.hid ht; clear ht hr
  generalize Told (.slice none 0 0) L R w = Q at *
  cases hv : vldT L <;> rw [hv] at HV
  · have HV2 := Lib.hid hv; clear hv HT
    generalize L.length = n at *
    go_enter Try.func16, Try.ntmps16
    go_wp2_with (go_at_call 19; refine HV.out.mono ?_; rintro e w' ⟨rfl, hB⟩)
    exact H1.out HV2.out _ hB
  · have HV2 := Lib.hid hv
    have HT2 := Lib.hid (HT.out hv); clear hv HT
    generalize L.length = n at *
    go_enter Try.func16, Try.ntmps16
    go_wp2_with (first | (go_at_call 19; refine HV.out.mono ?_; rintro e w' ⟨rfl, hB⟩) | (go_at_fn g; refine (HT2.out _ hB).mono ?_; rintro e w2 ⟨h2, v, rfl, hv2⟩; have HR := Lib.hid hv2; clear hv2))
    exact H2.out HV2.out _ _ (hB.trs h2) HR.out

def SlackE (L : List (Int × Int × Int)) : Int := gateT (vldT L) true
theorem SlackE_no {L : List (Int × Int × Int)} (h : vldT L = false) : SlackE L = 80 := by unfold SlackE; rw [h]; rfl
theorem SlackE_yes {L : List (Int × Int × Int)} (h : vldT L = true) : SlackE L = 0 := by unfold SlackE; rw [h]; rfl
def SlackV (L : List (Int × Int × Int)) : Value := .tuple #[.int .i64 (valT (SlackE L) (slk L)), .int .i64 (SlackE L)]
theorem SlackV_no {L : List (Int × Int × Int)} (h : vldT L = false) : SlackV L = .tuple #[.int .i64 0, .int .i64 80] := by unfold SlackV; rw [SlackE_no h]; rfl
theorem SlackV_yes {L : List (Int × Int × Int)} (h : vldT L = true) : SlackV L = .tuple #[.int .i64 (slk L), .int .i64 0] := by unfold SlackV; rw [SlackE_yes h]; rfl

end Go.Proofs.Ytannnbjadbmmcaa
