/- The law TopSky: what it compares, and its own function walked. -/
import Derived.Test.YtgbpmleipdecgaaSkyLa
import Derived.Test.YtgbpmleipdecgaaSkyEa
namespace Go.Proofs.Ytgbpmleipdecgaa
open Go.RowKit
set_option linter.unusedSimpArgs false
set_option linter.unusedVariables false

theorem okP_four {n : Nat} (h : n < 3072) : okP 4 (n : Int) = true := by
  unfold okP
  rw [Bool.and_eq_true, btw_iff, btw_iff]
  have : px 4 = 3072 := by decide
  omega
theorem all_four (S : Px) (n : Nat) : allC S 4 (n : Int) = S n := by
  unfold allC
  rw [show ((4 : Int) - 4).toNat = 0 by decide, Int.toNat_natCast, Nat.pow_zero, Nat.mul_one, Bool.eq_iff_iff, allP_iff]
  constructor
  · intro h; exact h 0 (by omega)
  · intro h k hk
    obtain rfl : k = 0 := by omega
    exact h
def HoldR (L : List (Int × Int)) (E : Int) (n : Nat) (want : Bool) : Prop := (E = 4 ∧ L = []) ∨ (E = 0 ∧ vldC L = true ∧ L.length ≤ 400 ∧ uniP L n = want)
theorem hold_told (R : Px) {n : Nat} (hn : n < 3072) : HoldR (toldL R) (toldE R) n (R n) := by
  rcases told_or R with ⟨h1, h2, h3, h4⟩ | ⟨h1, h2⟩
  · exact .inr ⟨h1, h3, toldL_len _, h4 n hn⟩
  · exact .inl ⟨h1, h2⟩
theorem has_four {L : List (Int × Int)} {n : Nat} (hn : n < 3072) (hv : vldC L = true) : hasB L 4 (n : Int) = uniP L n ∧ hasE L 4 (n : Int) = 0 := by
  unfold hasB hasE
  rw [hv, okP_four hn, all_four]
  exact ⟨rfl, rfl⟩
set_option maxHeartbeats 4000000 in
theorem holds_any (A : Option Addr) (c : Nat) (L : List (Int × Int)) (E : Int) (n : Nat) (want : Bool) (w : World) (hr : RdP w w.heap.size A L) (hn : n < 3072) (H : HoldR L E n want) :
    Calls Try.prog 18 #[.slice A L.length c, .int .i64 E, .agg #[.int .i64 4, .int .i64 n], .bool want] w fun e w' => e = .returned (.bool true) ∧ Below w.heap.size w w' := by
  have hb0 := below_alloc w (.cells #[.int .i64 4, .int .i64 n] 37)
  have hx0 := Box.new w 37 #[.int .i64 4, .int .i64 n]
  have HX := Lib.hid (And.intro hx0 hb0)
  rcases H with ⟨rfl, rfl⟩ | ⟨rfl, hv, hl, rfl⟩
  · rw [List.length_nil]
    clear hr hb0 hx0 hn
    go_enter Try.func18, Try.ntmps18
    go_upto_region 1 with (fail)
    generalize hW0 : w.alloc (.cells #[.int .i64 4, .int .i64 n] 37) = W0 at *
    clear hW0
    go_wp2
    go_ret
    exact ⟨by first | rfl | simp, HX.out.2⟩
  · have HH := Lib.hid (fun W (hW : Below w.heap.size w W) => Has_any A c L 4 n W (hr.on hW) (by omega))
    have HV := Lib.hid (fun W (hW : Below w.heap.size w W) => Valid_any A c L W (hr.on hW) (by omega))
    obtain ⟨e1, e2⟩ := has_four hn hv
    rw [e1, e2] at HH
    rw [hv] at HV
    clear e1 e2 hr hn hv hl hb0 hx0
    generalize uniP L n = u at *
    generalize L.length = k at *
    cases u
    all_goals
      go_enter Try.func18, Try.ntmps18
      go_upto_region 1 with (fail)
      generalize hW0 : w.alloc (.cells #[.int .i64 4, .int .i64 n] 37) = W0 at *
      clear hW0
      have q0 := HX.out.1.cell 0
      have q1 := HX.out.1.cell 1
      simp at q0 q1
      go_wp2_with (first
        | (go_at_call 13; refine (HH.out _ HX.out.2).mono ?_; rintro e w1 ⟨rfl, h1⟩)
        | (go_at_call 53; refine (HV.out _ (HX.out.2.trs h1)).mono ?_; rintro e w2 ⟨rfl, h2⟩))
      go_ret
      exact ⟨by first | rfl | simp, (HX.out.2.trs h1).trs h2⟩
end Go.Proofs.Ytgbpmleipdecgaa
