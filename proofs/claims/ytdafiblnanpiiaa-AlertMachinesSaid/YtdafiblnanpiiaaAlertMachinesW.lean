/- The walk of the law AlertMachines. -/
import Derived.Test.YtdafiblnanpiiaaAlRs
import Derived.Test.YtdafiblnanpiiaaAlIso
import Derived.Test.YtdafiblnanpiiaaAlR
namespace Go.Proofs.Ytdafiblnanpiiaa
open Go.RowKit
set_option linter.unusedSimpArgs false
set_option linter.unusedVariables false

theorem IsoV_two (L : List (Int × Int × Int)) (a b k : Int) : ∃ (x : Bool) (e : Int), IsoV L a b k = .tuple #[.bool x, .int .i64 e] := ⟨_, _, rfl⟩
theorem SvV_two (L : List (Int × Int × Int)) (k : Int) : ∃ (x : Bool) (e : Int), SvV L k = .tuple #[.bool x, .int .i64 e] := ⟨_, _, rfl⟩
theorem MachV_two (L : List (Int × Int × Int)) : ∃ (x e : Int), MachV L = .tuple #[.int .i64 x, .int .i64 e] := by
  unfold MachV; split <;> exact ⟨_, _, rfl⟩

set_option maxRecDepth 100000 in
set_option maxHeartbeats 8000000 in
theorem AlertMachines_walk (w : World) (A : Option Addr) (c : Nat) (L : List (Int × Int × Int)) (hr : RdT w w.heap.size A L) (_hm : L.length ≤ maxLen) (k : Int) (a b : Int) (_hs : (Lit.int .i64 a).wf = true ∧ (Lit.int .i64 b).wf = true) :
    Calls Try.prog 5 #[.slice A L.length c, .int .i64 k, .agg #[.int .i64 a, .int .i64 b]] w fun e w' => e = .returned (.bool true) ∧ Below w.heap.size w w' := by
  have hB0 := below_alloc w (.cells #[.int .i64 a, .int .i64 b] 40)
  have hbx := Box.new w 40 #[.int .i64 a, .int .i64 b]
  have HR := Lib.hid (hr.on hB0)
  clear hr _hs
  have HB0 := Lib.hid hB0
  have HBX := Lib.hid hbx
  clear hB0 hbx
  by_cases hl : L.length ≤ 40
  · have hd : decide ((40 : Int) < L.length) = false := by simp; omega
    have hl2 : L.length ≤ 1125899906842624 := by omega
    generalize hW0 : w.alloc (.cells #[.int .i64 a, .int .i64 b] 40) = W0 at *
    have H1 := Lib.hid (fun W (hW : Below W0.heap.size W0 W) => IsOverfull_any A c L a b k W (HR.out.on hW) hl2)
    have H2 := Lib.hid (fun W (hW : Below W0.heap.size W0 W) => refIsOverfull_any A c L a b k W (HR.out.on hW) hl2)
    have H3 := Lib.hid (fun W (hW : Below W0.heap.size W0 W) => Several_any A c L k W (HR.out.on hW) hl2)
    have H4 := Lib.hid (fun W (hW : Below W0.heap.size W0 W) => refSeveral_any A c L k W (HR.out.on hW) hl2)
    have H5 := Lib.hid (fun W (hW : Below W0.heap.size W0 W) => Machines_any A c L W (HR.out.on hW) hl2)
    have H6 := Lib.hid (fun W (hW : Below W0.heap.size W0 W) => refMachines_any A c L W (HR.out.on hW) hl2)
    have HCE : Hid (∀ W, Below W0.heap.size W0 W → W.cell? ⟨w.heap.size, 0, none⟩ = some (.int .i64 a) ∧ W.cell? ⟨w.heap.size, 1, none⟩ = some (.int .i64 b)) := Lib.hid (fun W hW => by
      have hb := HBX.out.on hW
      exact ⟨hb.cell 0, hb.cell 1⟩)
    obtain ⟨x1, e1, h1⟩ := IsoV_two L a b k
    obtain ⟨x2, e2, h2⟩ := SvV_two L k
    obtain ⟨x3, e3, h3⟩ := MachV_two L
    rw [h1] at H1 H2
    rw [h2] at H3 H4
    rw [h3] at H5 H6
    clear h1 h2 h3 HBX
    obtain ⟨g0, g1⟩ := HCE.out W0 (Below.refl _ _)
    subst hW0
    generalize L.length = n at *
    have HBW := Lib.hid (Below.refl (w.alloc (.cells #[.int .i64 a, .int .i64 b] 40)).heap.size (w.alloc (.cells #[.int .i64 a, .int .i64 b] 40)))
    go_enter Try.func5, Try.ntmps5
    go_wp2_with (first
      | (go_at_call 14; refine (Long_any _ _ _ _).mono ?_; rintro e w' ⟨rfl, rfl⟩)
      | (go_at_call 25; refine (H1.out _ HBW.out).mono ?_; rintro e w1 ⟨rfl, h1⟩; obtain ⟨k0, k1⟩ := HCE.out _ h1)
      | (go_at_call 26; refine (H2.out _ h1).mono ?_; rintro e w2 ⟨rfl, h2'⟩; have h2 := h1.trs h2')
      | (go_at_call 27; refine (H3.out _ h2).mono ?_; rintro e w3 ⟨rfl, h3'⟩; have h3 := h2.trs h3')
      | (go_at_call 28; refine (H4.out _ h3).mono ?_; rintro e w4 ⟨rfl, h4'⟩; have h4 := h3.trs h4')
      | (go_at_call 29; refine (H5.out _ h4).mono ?_; rintro e w5 ⟨rfl, h5'⟩; have h5 := h4.trs h5')
      | (go_at_call 30; refine (H6.out _ h5).mono ?_; rintro e w6 ⟨rfl, h6'⟩; have h6 := h5.trs h6')
      | (go_at_call 15; refine (Sane_any _).mono ?_; rintro e w10 ⟨rfl, h10⟩))
    go_ret
    exact ⟨by first | rfl | simp, (HB0.out.trs h6).trs h10⟩
  · have hd : decide ((40 : Int) < L.length) = true := by simp; omega
    go_enter Try.func5, Try.ntmps5
    go_wp2_with (first
      | (go_at_call 14; refine (Long_any _ _ _ _).mono ?_; rintro e w' ⟨rfl, rfl⟩)
      | (go_at_call 15; refine (Sane_any _).mono ?_; rintro e w10 ⟨rfl, h10⟩))
    go_ret
    exact ⟨rfl, HB0.out.trs h10⟩
end Go.Proofs.Ytdafiblnanpiiaa
