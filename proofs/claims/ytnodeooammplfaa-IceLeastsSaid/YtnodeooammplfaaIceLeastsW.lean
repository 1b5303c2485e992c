/- The walk of IceLeasts. -/
import Derived.Test.YtnodeooammplfaaIceX
import Derived.Test.YtnodeooammplfaaIceLossesW
namespace Go.Proofs.Ytnodeooammplfaa
set_option linter.unusedVariables false
open Go.RowKit

theorem IceLeasts_walk (w : World) (A : Option Addr) (c : Nat) (L : List (Int × Int)) (hr : RdP w w.heap.size A L) (_hm : L.length ≤ maxLen) (k : Int) :
    Calls Try.prog 7 #[.slice A L.length c, .int .i64 k] w fun e w' => e = .returned (.bool true) ∧ Below w.heap.size w w' := by
  have HR := Lib.hid hr; clear hr
  have hB := Below.refl w.heap.size w
  by_cases hl : L.length ≤ 60
  · have hd : decide ((60 : Int) < L.length) = false := by simp; omega
    have hl2 : L.length ≤ 1125899906842624 := by omega
    have H1 := Lib.hid (fun W (h : Below w.heap.size w W) => Least_any A c L k W (HR.out.on h) hl2)
    have H2 := Lib.hid (fun W (h : Below w.heap.size w W) => refLeast_any A c L k W (HR.out.on h) hl2)
    obtain ⟨a, b, hab⟩ : ∃ a b : Int, LeastV L k = .tuple #[.int .i64 a, .int .i64 b] := ⟨_, _, rfl⟩
    rw [hab] at H1 H2
    clear hab
    go_enter Try.func7, Try.ntmps7
    go_wp2_with (first
      | (go_at_call 16; refine (Long_any _ _ _ _).mono ?_; rintro e w' ⟨rfl, rfl⟩)
      | (go_at_call 36; refine (H1.out _ hB).mono ?_; rintro e w1 ⟨rfl, h1⟩; have hB := hB.trs h1)
      | (go_at_call 37; refine (H2.out _ hB).mono ?_; rintro e w2 ⟨rfl, h2⟩; have hB := hB.trs h2)
      | (go_at_call 17; refine (Sane_any _).mono ?_; rintro e w6 ⟨rfl, h6⟩; have hB := hB.trs h6))
    go_ret
    exact ⟨rfl, hB⟩
  · have hd : decide ((60 : Int) < L.length) = true := by simp; omega
    go_enter Try.func7, Try.ntmps7
    go_wp2_with (first
      | (go_at_call 16; refine (Long_any _ _ _ _).mono ?_; rintro e w' ⟨rfl, rfl⟩)
      | (go_at_call 17; refine (Sane_any _).mono ?_; rintro e w10 ⟨rfl, h10⟩))
    go_ret
    exact ⟨rfl, h10⟩
end Go.Proofs.Ytnodeooammplfaa
