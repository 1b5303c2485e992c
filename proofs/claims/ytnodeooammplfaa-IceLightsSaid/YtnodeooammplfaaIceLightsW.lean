/- The walk of IceLights. -/
import Derived.Test.YtnodeooammplfaaIceM
import Derived.Test.YtnodeooammplfaaIceLossesW
namespace Go.Proofs.Ytnodeooammplfaa
open Go.RowKit

set_option maxRecDepth 100000 in
set_option maxHeartbeats 2000000 in
theorem IceLights_walk (w : World) (A : Option Addr) (c : Nat) (L : List (Int × Int)) (hr : RdP w w.heap.size A L) (_hm : L.length ≤ maxLen) (x s : Int) :
    Calls Try.prog 8 #[.slice A L.length c, .int .i64 x, .int .i64 s] w fun e w' => e = .returned (.bool true) ∧ Below w.heap.size w w' := by
  have HR := Lib.hid hr; clear hr
  by_cases hl : L.length ≤ 60
  · have hd : decide ((60 : Int) < L.length) = false := by simp; omega
    have hl2 : L.length ≤ 1125899906842624 := by omega
    obtain ⟨a1, b1, c1, e1⟩ : ∃ a b c : Int, LitV L x s = .tuple #[.int .i64 a, .int .i64 b, .int .i64 c] := ⟨_, _, _, rfl⟩
    obtain ⟨a2, c2, e2⟩ : ∃ a c : Int, DownV L x s = .tuple #[.int .i64 a, .int .i64 c] := ⟨_, _, rfl⟩
    obtain ⟨a3, c3, e3⟩ : ∃ a c : Int, UpV L x s = .tuple #[.int .i64 a, .int .i64 c] := ⟨_, _, rfl⟩
    have H1 := Lib.hid (fun W (h : Below w.heap.size w W) => Lit_any A c L x s W (HR.out.on h) hl2)
    have H2 := Lib.hid (fun W (h : Below w.heap.size w W) => refLit_any A c L x s W (HR.out.on h) hl2)
    have H3 := Lib.hid (fun W (h : Below w.heap.size w W) => Down_any A c L x s W (HR.out.on h) hl2)
    have H4 := Lib.hid (fun W (h : Below w.heap.size w W) => refDown_any A c L x s W (HR.out.on h) hl2)
    have H5 := Lib.hid (fun W (h : Below w.heap.size w W) => Up_any A c L x s W (HR.out.on h) hl2)
    have H6 := Lib.hid (fun W (h : Below w.heap.size w W) => refUp_any A c L x s W (HR.out.on h) hl2)
    have H7 := Lib.hid (fun W (h : Below w.heap.size w W) => Middle_any A c L W (HR.out.on h) hl2)
    have H8 := Lib.hid (fun W (h : Below w.heap.size w W) => refMiddle_any A c L W (HR.out.on h) hl2)
    rw [e1] at H1 H2
    rw [e2] at H3 H4
    rw [e3] at H5 H6
    clear e1 e2 e3
    generalize val (gate (vld L) true) (midI (mets L)) = m at *
    generalize gate (vld L) true = er at *
    have hB := Below.refl w.heap.size w
    go_enter Try.func8, Try.ntmps8
    go_wp2_with (first
      | (go_at_call 16; refine (Long_any _ _ _ _).mono ?_; rintro e w' ⟨rfl, rfl⟩)
      | (go_at_call 34; refine (H1.out _ hB).mono ?_; rintro e w1 ⟨rfl, h1⟩; have hB := hB.trs h1)
      | (go_at_call 38; refine (H2.out _ hB).mono ?_; rintro e w2 ⟨rfl, h1⟩; have hB := hB.trs h1)
      | (go_at_call 39; refine (H3.out _ hB).mono ?_; rintro e w3 ⟨rfl, h1⟩; have hB := hB.trs h1)
      | (go_at_call 40; refine (H4.out _ hB).mono ?_; rintro e w4 ⟨rfl, h1⟩; have hB := hB.trs h1)
      | (go_at_call 41; refine (H5.out _ hB).mono ?_; rintro e w5 ⟨rfl, h1⟩; have hB := hB.trs h1)
      | (go_at_call 42; refine (H6.out _ hB).mono ?_; rintro e w6 ⟨rfl, h1⟩; have hB := hB.trs h1)
      | (go_at_call 35; refine (H7.out _ hB).mono ?_; rintro e w7 ⟨rfl, h1⟩; have hB := hB.trs h1)
      | (go_at_call 43; refine (H8.out _ hB).mono ?_; rintro e w8 ⟨rfl, h1⟩; have hB := hB.trs h1)
      | (go_at_call 17; refine (Sane_any _).mono ?_; rintro e w9 ⟨rfl, h1⟩; have hB := hB.trs h1))
    go_ret
    exact ⟨rfl, hB⟩
  · have hd : decide ((60 : Int) < L.length) = true := by simp; omega
    go_enter Try.func8, Try.ntmps8
    go_wp2_with (first
      | (go_at_call 16; refine (Long_any _ _ _ _).mono ?_; rintro e w' ⟨rfl, rfl⟩)
      | (go_at_call 17; refine (Sane_any _).mono ?_; rintro e w10 ⟨rfl, h10⟩))
    go_ret
    exact ⟨rfl, h10⟩
end Go.Proofs.Ytnodeooammplfaa
