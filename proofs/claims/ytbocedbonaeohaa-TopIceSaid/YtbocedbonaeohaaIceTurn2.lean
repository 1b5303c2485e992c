/- The walks over Turned, its reference and sameIce. -/
import Derived.Test.YtbocedbonaeohaaIceTurn
namespace Go.Proofs.Ytbocedbonaeohaa
set_option linter.unusedVariables false
open Go.RowKit

theorem OwnP.less {w : World} {B B' : Nat} {e : TypeId} {v : Value} {l : List (Int × Int)} (h : OwnP w B e v l) (hb : B' ≤ B) : OwnP w B' e v l := by
  refine ⟨h.1, ?_⟩
  rcases h.2 with h0 | ⟨g, cap, cur, h1, h2, h3⟩
  · exact .inl h0
  · exact .inr ⟨g, cap, cur, h1, Nat.le_trans hb h2, h3⟩

set_option maxRecDepth 100000 in
theorem Turned_any (A : Option Addr) (c : Nat) (L : List (Int × Int)) (w : World) (hr : RdP w w.heap.size A L) (hl : L.length ≤ 1125899906842624) :
    Calls Try.prog 7 #[.slice A L.length c] w (IceRet (TL L) (gate (vld L) true) w) := by
  have HV := Lib.hid (Valid_any A c L w hr hl)
  cases hv : vld L
  · have HE : Hid (∀ w', Below w.heap.size w w' → IceRet (TL L) (gate (vld L) true) w (.returned (.tuple #[.slice none 0 0, .int .i64 40])) w') := fun w' hb => iceRet_no hv (by simp [TL, hv]) hb
    rw [hv] at HV HE
    clear hr hv
    go_enter Try.func7, Try.ntmps7
    go_wp2_with (go_at_call 17; refine HV.out.mono ?_; rintro e w1 ⟨rfl, h1⟩)
    go_ret2
    exact HE.out _ h1
  · have HE : Hid (∀ v w', OwnP w' w.heap.size 39 v L.reverse → Below w.heap.size w w' → IceRet (TL L) (gate (vld L) true) w (.returned (.tuple #[v, .int .i64 0])) w') := fun v w' ho hb => iceRet_ok hv (by simp only [TL, hv, if_true]; exact ho) hb
    have HR := Lib.hid hr
    have hn1 := (vld_spec hv).1
    have hn2 := (vld_spec hv).2.1
    have HN : Hid (L ≠ []) := by intro h; subst h; simp at hn1
    rw [hv] at HV HE
    clear hr hv
    go_enter Try.func7, Try.ntmps7
    go_wp2_with (first
      | (go_at_call 17; refine HV.out.mono ?_; rintro e w1 ⟨rfl, h1⟩)
      | (go_at_call 18; refine (CloneL_any A c L _ (HR.out.on h1) HN.out (by omega)).mono ?_; rintro e w2 ⟨v, rfl, hO, h2⟩; rcases hO.form with ⟨_, h0⟩ | ⟨g, cc, rfl, -⟩; exact absurd h0 HN.out)
      | (go_at_call 19; refine (ReverseL_any _ g cc L _ hO h2.size (by omega)).mono ?_; rintro e w3 ⟨rfl, hO3, h3⟩))
    go_ret2
    exact HE.out _ _ (hO3.less h1.size) (h1.trans ((h2.trans h3).mono h1.size))

end Go.Proofs.Ytbocedbonaeohaa
