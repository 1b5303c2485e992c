/- Walks over package alert: what is told of valid tasks; the slack; the first stretch that is overfull; the reference's. -/
import Derived.Test.YtdafiblnanpiiaaAlD
namespace Go.Proofs.Ytdafiblnanpiiaa
open Go.RowKit Go.Shelf
set_option linter.unusedSimpArgs false
set_option linter.unusedVariables false
attribute [local go_sem] Oper.semAt_some

/-- what is told of valid tasks by a closure, or the error -/
def Told (none : Value) (L : List (Int × Int × Int)) (R : Value → World → Prop) (w : World) (e : Ending) (w' : World) : Prop :=
  Below w.heap.size w w' ∧ ((vldT L = false ∧ e = .returned (.tuple #[none, .int .i64 80])) ∨ (vldT L = true ∧ ∃ v, e = .returned (.tuple #[v, .int .i64 0]) ∧ R v w'))
/-- what is asked of the closure -/
def Tells (g : Nat) (lb : Array Value) (R : Value → World → Prop) (w : World) : Prop :=
  ∀ W : World, Below w.heap.size w W → Calls Try.prog g lb W fun e w' => Below W.heap.size W w' ∧ ∃ v, e = .returned v ∧ R v w'

theorem toldI_any (g : Nat) (lb : Array Value) (A : Option Addr) (c : Nat) (L : List (Int × Int × Int)) (R : Value → World → Prop) (w : World) (hr : RdT w w.heap.size A L) (hl : L.length ≤ 1125899906842624)
    (eg : ∀ args w, (callFunc g args).run Try.prog w = .ok (.enter g args) w) (ht : vldT L = true → Tells g lb R w) :
    Calls Try.prog 59 #[.slice A L.length c, .func (.func g) #[] lb] w (Told (.int .i64 0) L R w) := by
  have HV := Lib.hid (Valid_any A c L w hr hl)
  have H1 : Hid (vldT L = false → ∀ w', Below w.heap.size w w' → Told (.int .i64 0) L R w (.returned (.tuple #[.int .i64 0, .int .i64 80])) w') := Lib.hid (fun h w' hb => ⟨hb, .inl ⟨h, rfl⟩⟩)
  have H2 : Hid (vldT L = true → ∀ v w', Below w.heap.size w w' → R v w' → Told (.int .i64 0) L R w (.returned (.tuple #[v, .int .i64 0])) w') := Lib.hid (fun h v w' hb hv => ⟨hb, .inr ⟨h, v, rfl, hv⟩⟩)
  have HT := Lib.hid ht; clear ht hr
  generalize Told (.int .i64 0) L R w = Q at *
  cases hv : vldT L <;> rw [hv] at HV
  · have HV2 := Lib.hid hv; clear hv HT
    generalize L.length = n at *
    go_enter Try.func59, Try.ntmps59
    go_wp2_with (go_at_call 49; refine HV.out.mono ?_; rintro e w' ⟨rfl, hB⟩)
    exact H1.out HV2.out _ hB
  · have HV2 := Lib.hid hv
    have HT2 := Lib.hid (HT.out hv); clear hv HT
    generalize L.length = n at *
    go_enter Try.func59, Try.ntmps59
    go_wp2_with (first | (go_at_call 49; refine HV.out.mono ?_; rintro e w' ⟨rfl, hB⟩) | (go_at_fn g; refine (HT2.out _ hB).mono ?_; rintro e w2 ⟨h2, v, rfl, hv2⟩; have HR := Lib.hid hv2; clear hv2))
    exact H2.out HV2.out _ _ (hB.trs h2) HR.out

theorem toldS_any (g : Nat) (lb : Array Value) (A : Option Addr) (c : Nat) (L : List (Int × Int × Int)) (R : Value → World → Prop) (w : World) (hr : RdT w w.heap.size A L) (hl : L.length ≤ 1125899906842624)
    (eg : ∀ args w, (callFunc g args).run Try.prog w = .ok (.enter g args) w) (ht : vldT L = true → Tells g lb R w) :
    Calls Try.prog 64 #[.slice A L.length c, .func (.func g) #[] lb] w (Told (.slice none 0 0) L R w) := by
  have HV := Lib.hid (Valid_any A c L w hr hl)
  have H1 : Hid (vldT L = false → ∀ w', Below w.heap.size w w' → Told (.slice none 0 0) L R w (.returned (.tuple #[.slice none 0 0, .int .i64 80])) w') := Lib.hid (fun h w' hb => ⟨hb, .inl ⟨h, rfl⟩⟩)
  have H2 : Hid (vldT L = true → ∀ v w', Below w.heap.size w w' → R v w' → Told (.slice none 0 0) L R w (.returned (.tuple #[v, .int .i64 0])) w') := Lib.hid (fun h v w' hb hv => ⟨hb, .inr ⟨h, v, rfl, hv⟩⟩)
  have HT := Lib.hid ht; clear ht hr
  generalize Told (.slice none 0 0) L R w = Q at *
  cases hv : vldT L <;> rw [hv] at HV
  · have HV2 := Lib.hid hv; clear hv HT
    generalize L.length = n at *
    go_enter Try.func64, Try.ntmps64
    go_wp2_with (go_at_call 49; refine HV.out.mono ?_; rintro e w' ⟨rfl, hB⟩)
    exact H1.out HV2.out _ hB
  · have HV2 := Lib.hid hv
    have HT2 := Lib.hid (HT.out hv); clear hv HT
    generalize L.length = n at *
    go_enter Try.func64, Try.ntmps64
    go_wp2_with (first | (go_at_call 49; refine HV.out.mono ?_; rintro e w' ⟨rfl, hB⟩) | (go_at_fn g; refine (HT2.out _ hB).mono ?_; rintro e w2 ⟨h2, v, rfl, hv2⟩; have HR := Lib.hid hv2; clear hv2))
    exact H2.out HV2.out _ _ (hB.trs h2) HR.out

theorem toldB_any (g : Nat) (lb : Array Value) (A : Option Addr) (c : Nat) (L : List (Int × Int × Int)) (R : Value → World → Prop) (w : World) (hr : RdT w w.heap.size A L) (hl : L.length ≤ 1125899906842624)
    (eg : ∀ args w, (callFunc g args).run Try.prog w = .ok (.enter g args) w) (ht : vldT L = true → Tells g lb R w) :
    Calls Try.prog 68 #[.slice A L.length c, .func (.func g) #[] lb] w (Told (.bool false) L R w) := by
  have HV := Lib.hid (Valid_any A c L w hr hl)
  have H1 : Hid (vldT L = false → ∀ w', Below w.heap.size w w' → Told (.bool false) L R w (.returned (.tuple #[.bool false, .int .i64 80])) w') := Lib.hid (fun h w' hb => ⟨hb, .inl ⟨h, rfl⟩⟩)
  have H2 : Hid (vldT L = true → ∀ v w', Below w.heap.size w w' → R v w' → Told (.bool false) L R w (.returned (.tuple #[v, .int .i64 0])) w') := Lib.hid (fun h v w' hb hv => ⟨hb, .inr ⟨h, v, rfl, hv⟩⟩)
  have HT := Lib.hid ht; clear ht hr
  generalize Told (.bool false) L R w = Q at *
  cases hv : vldT L <;> rw [hv] at HV
  · have HV2 := Lib.hid hv; clear hv HT
    generalize L.length = n at *
    go_enter Try.func68, Try.ntmps68
    go_wp2_with (go_at_call 49; refine HV.out.mono ?_; rintro e w' ⟨rfl, hB⟩)
    exact H1.out HV2.out _ hB
  · have HV2 := Lib.hid hv
    have HT2 := Lib.hid (HT.out hv); clear hv HT
    generalize L.length = n at *
    go_enter Try.func68, Try.ntmps68
    go_wp2_with (first | (go_at_call 49; refine HV.out.mono ?_; rintro e w' ⟨rfl, hB⟩) | (go_at_fn g; refine (HT2.out _ hB).mono ?_; rintro e w2 ⟨h2, v, rfl, hv2⟩; have HR := Lib.hid hv2; clear hv2))
    exact H2.out HV2.out _ _ (hB.trs h2) HR.out

theorem toldT_any (g : Nat) (lb : Array Value) (A : Option Addr) (c : Nat) (L : List (Int × Int × Int)) (R : Value → World → Prop) (w : World) (hr : RdT w w.heap.size A L) (hl : L.length ≤ 1125899906842624)
    (eg : ∀ args w, (callFunc g args).run Try.prog w = .ok (.enter g args) w) (ht : vldT L = true → Tells g lb R w) :
    Calls Try.prog 80 #[.slice A L.length c, .func (.func g) #[] lb] w (Told (.slice none 0 0) L R w) := by
  have HV := Lib.hid (Valid_any A c L w hr hl)
  have H1 : Hid (vldT L = false → ∀ w', Below w.heap.size w w' → Told (.slice none 0 0) L R w (.returned (.tuple #[.slice none 0 0, .int .i64 80])) w') := Lib.hid (fun h w' hb => ⟨hb, .inl ⟨h, rfl⟩⟩)
  have H2 : Hid (vldT L = true → ∀ v w', Below w.heap.size w w' → R v w' → Told (.slice none 0 0) L R w (.returned (.tuple #[v, .int .i64 0])) w') := Lib.hid (fun h v w' hb hv => ⟨hb, .inr ⟨h, v, rfl, hv⟩⟩)
  have HT := Lib.hid ht; clear ht hr
  generalize Told (.slice none 0 0) L R w = Q at *
  cases hv : vldT L <;> rw [hv] at HV
  · have HV2 := Lib.hid hv; clear hv HT
    generalize L.length = n at *
    go_enter Try.func80, Try.ntmps80
    go_wp2_with (go_at_call 49; refine HV.out.mono ?_; rintro e w' ⟨rfl, hB⟩)
    exact H1.out HV2.out _ hB
  · have HV2 := Lib.hid hv
    have HT2 := Lib.hid (HT.out hv); clear hv HT
    generalize L.length = n at *
    go_enter Try.func80, Try.ntmps80
    go_wp2_with (first | (go_at_call 49; refine HV.out.mono ?_; rintro e w' ⟨rfl, hB⟩) | (go_at_fn g; refine (HT2.out _ hB).mono ?_; rintro e w2 ⟨h2, v, rfl, hv2⟩; have HR := Lib.hid hv2; clear hv2))
    exact H2.out HV2.out _ _ (hB.trs h2) HR.out

def SlackE (L : List (Int × Int × Int)) : Int := gateT (vldT L) true
theorem SlackE_no {L : List (Int × Int × Int)} (h : vldT L = false) : SlackE L = 80 := by unfold SlackE; rw [h]; rfl
theorem SlackE_yes {L : List (Int × Int × Int)} (h : vldT L = true) : SlackE L = 0 := by unfold SlackE; rw [h]; rfl
def SlackV (L : List (Int × Int × Int)) : Value := .tuple #[.int .i64 (valT (SlackE L) (slk L)), .int .i64 (SlackE L)]
theorem SlackV_no {L : List (Int × Int × Int)} (h : vldT L = false) : SlackV L = .tuple #[.int .i64 0, .int .i64 80] := by unfold SlackV; rw [SlackE_no h]; rfl
theorem SlackV_yes {L : List (Int × Int × Int)} (h : vldT L = true) : SlackV L = .tuple #[.int .i64 (slk L), .int .i64 0] := by unfold SlackV; rw [SlackE_yes h]; rfl

theorem Slack_any (A : Option Addr) (c : Nat) (L : List (Int × Int × Int)) (w : World) (hr : RdT w w.heap.size A L) (hl : L.length ≤ 1125899906842624) :
    Calls Try.prog 18 #[.slice A L.length c] w fun e w' => e = .returned (SlackV L) ∧ Below w.heap.size w w' := by
  have hB0 := below_alloc w (.cells #[.slice A L.length c] 22)
  have hcell := cell_one w (.slice A L.length c) 22
  have HT := Lib.hid (toldI_any 60 #[.pointer (some ⟨w.heap.size, 0, none⟩)] A c L (fun v _ => v = .int .i64 (slk L)) _ (hr.on hB0) hl (enters_of Try.func60 (by kernel_rfl) rfl) (fun hv W hW =>
    (Slack1_any A c w.heap.size L W ((hr.on hB0).on hW) (okT_of hv) ((hW.cell (p := ⟨w.heap.size, 0, none⟩) (by simp)).trans hcell)).mono (fun e w' ⟨h1, h2⟩ => ⟨h2, _, h1, rfl⟩)))
  clear hr hcell
  have H1 := Lib.hid (@SlackV_no L)
  have H2 := Lib.hid (@SlackV_yes L)
  unfold Told at HT
  generalize SlackV L = V at *
  generalize slk L = s at *
  generalize L.length = n at *
  go_enter Try.func18, Try.ntmps18
  go_wp2_with (go_at_call 59; refine HT.out.mono ?_; rintro e w' ⟨hB, ⟨hv, rfl⟩ | ⟨hv, v, rfl, rfl⟩⟩ <;> (have HV := Lib.hid hv; clear hv))
  · go_ret2
    exact ⟨by rw [H1.out HV.out]; first | done | rfl, hB0.trs hB⟩
  · go_ret2
    exact ⟨by rw [H2.out HV.out]; first | done | rfl, hB0.trs hB⟩
end Go.Proofs.Ytdafiblnanpiiaa
