/- Walks over alert's reference: whether a stretch is overfull for some machines. -/
import Derived.Test.YtdafiblnanpiiaaAlQ
namespace Go.Proofs.Ytdafiblnanpiiaa
open Go.RowKit
set_option linter.unusedSimpArgs false
set_option linter.unusedVariables false

theorem refIsOverfull_any (A : Option Addr) (c : Nat) (L : List (Int × Int × Int)) (a b k : Int) (w : World) (hr : RdT w w.heap.size A L) (hl : L.length ≤ 1125899906842624) :
    Calls Try.prog 26 #[.slice A L.length c, .int .i64 a, .int .i64 b, .int .i64 k] w fun e w' => e = .returned (IsoV L a b k) ∧ Below w.heap.size w w' := by
  have HVa := Lib.hid (refValid_any A c L w hr hl)
  have HD := Lib.hid (fun (hv : vldT L = true) W (hW : Below w.heap.size w W) => refdemand_any A c L a b W (hr.on hW) (okT_of hv))
  have hI : IsoE L a b k = gateT (vldT L) (strB a b && btw 1 k 4) := rfl
  have hV : IsoV L a b k = .tuple #[.bool (decide (IsoE L a b k = 0) && decide (k * (b - a) < dem L a b)), .int .i64 (IsoE L a b k)] := rfl
  rw [hV, hI]
  clear hr hV hI
  generalize dem L a b = dm at *
  have HSB := Lib.hid (refisStretch_any a b)
  cases hv : vldT L
  · rw [hv] at HVa
    clear HD hv
    generalize strB a b = sb at *
    generalize L.length = n at *
    go_enter Try.func26, Try.ntmps26
    go_wp2_with (first | (go_at_call 22; refine HVa.out.mono ?_; rintro e w1 ⟨rfl, h1⟩) | (go_at_call 63; (with_reducible refine (within_any _ _ _ _).mono ?_); rintro e w' ⟨rfl, rfl⟩))
    go_ret2
    exact ⟨by first | rfl | simp [gateT], h1⟩
  · have HD2 := Lib.hid (HD.out hv)
    rw [hv] at HVa
    clear HD hv
    cases hs : strB a b
    · rw [hs] at HSB
      clear hs
      generalize L.length = n at *
      go_enter Try.func26, Try.ntmps26
      go_wp2_with (first | (go_at_call 22; refine HVa.out.mono ?_; rintro e w1 ⟨rfl, h1⟩) | (go_at_call 57; refine (HSB.out _).mono ?_; rintro e w' ⟨rfl, rfl⟩) | (go_at_call 63; (with_reducible refine (within_any _ _ _ _).mono ?_); rintro e w' ⟨rfl, rfl⟩))
      go_ret2
      exact ⟨by first | rfl | simp [gateT], h1⟩
    · have hs2 := strB_iff.1 hs
      rw [hs] at HSB
      cases hk : btw 1 k 4
      · have HK := Lib.hid hk
        clear hs hs2 hk
        generalize L.length = n at *
        go_enter Try.func26, Try.ntmps26
        go_wp2_with (first | (go_at_call 22; refine HVa.out.mono ?_; rintro e w1 ⟨rfl, h1⟩) | (go_at_call 57; refine (HSB.out _).mono ?_; rintro e w' ⟨rfl, rfl⟩) | (go_at_call 63; (with_reducible refine (within_any _ _ _ _).mono ?_); rintro e w' ⟨rfl, rfl⟩; rw [HK.out]))
        go_ret2
        exact ⟨by first | rfl | simp [gateT], h1⟩
      · have hk2 := btw_iff.1 hk
        have hm : 0 ≤ k * (b - a) ∧ k * (b - a) ≤ 400 := by
          rcases (show k = 1 ∨ k = 2 ∨ k = 3 ∨ k = 4 by omega) with rfl | rfl | rfl | rfl <;> omega
        have w1' : wrap64 (b - a) = b - a := IntWalk.wrap64_in _ (by omega)
        have w2' : wrap64 (k * (b - a)) = k * (b - a) := IntWalk.wrap64_in _ (by omega)
        have w3' : IntKind.i64.wrap (b - a) = b - a := IntWalk.i64_in _ (by omega)
        have w4' : IntKind.i64.wrap (k * (b - a)) = k * (b - a) := IntWalk.i64_in _ (by omega)
        have HK := Lib.hid hk
        clear hs hs2 hk2 hm hk
        generalize L.length = n at *
        go_enter Try.func26, Try.ntmps26
        go_wp2_with (first | (go_at_call 22; refine HVa.out.mono ?_; rintro e w1 ⟨rfl, h1⟩) | (go_at_call 57; refine (HSB.out _).mono ?_; rintro e w' ⟨rfl, rfl⟩) | (go_at_call 63; (with_reducible refine (within_any _ _ _ _).mono ?_); rintro e w' ⟨rfl, rfl⟩; rw [HK.out]) | (go_at_call 58; refine (HD2.out _ h1).mono ?_; rintro e w2 ⟨rfl, rfl⟩))
        go_ret2
        exact ⟨by first | rfl | simp [gateT], h1⟩
end Go.Proofs.Ytdafiblnanpiiaa
