/- The walk of the law AlertStretches. -/
import Derived.Test.YtdafiblnanpiiaaAlG
namespace Go.Proofs.Ytdafiblnanpiiaa
open Go.RowKit
set_option linter.unusedSimpArgs false
set_option linter.unusedVariables false

theorem RdT.two (w : World) (a b c d e f : Int) (t : TypeId) : RdT (w.alloc (.cells #[.int .i64 a, .int .i64 b, .int .i64 c, .int .i64 d, .int .i64 e, .int .i64 f] t)) (w.alloc (.cells #[.int .i64 a, .int .i64 b, .int .i64 c, .int .i64 d, .int .i64 e, .int .i64 f] t)).heap.size (some ⟨w.heap.size, 0, none⟩) [(a, b, c), (d, e, f)] :=
  .inr ⟨_, _, rfl, by simp, fun k hk => by
    rw [(Box.new w t _).cell, (Box.new w t _).cell, (Box.new w t _).cell]
    match k, hk with
    | 0, _ => exact ⟨rfl, rfl, rfl⟩
    | 1, _ => exact ⟨rfl, rfl, rfl⟩⟩
theorem sane_ovf : ovf [(0, 2, 2), (1, 3, 2)] = some (0, 3) := by decide +kernel
theorem sane_vld : vldT [(0, 2, 2), (1, 3, 2)] = true := by decide +kernel

theorem Sane_any (w : World) : Calls Try.prog 15 #[] w fun e w' => e = .returned (.bool true) ∧ Below w.heap.size w w' := by
  have H := Overfull_any (some ⟨w.heap.size, 0, none⟩) 2 [(0, 2, 2), (1, 3, 2)] _ (RdT.two w 0 2 2 1 3 2 36) (by decide)
  have hv : OverV [(0, 2, 2), (1, 3, 2)] = .tuple #[.int .i64 0, .int .i64 3, .int .i64 0] := by unfold OverV; rw [sane_vld, sane_ovf]; rfl
  rw [hv] at H
  have HH := Lib.hid H; clear H hv
  go_enter Try.func15, Try.ntmps15
  go_wp2_with (go_at_call 20; refine HH.out.mono ?_; rintro e w1 ⟨rfl, hB⟩)
  go_ret
  exact ⟨rfl, (below_alloc _ _).trs hB⟩

theorem OverV_form (L : List (Int × Int × Int)) : ∃ x y e : Int, OverV L = .tuple #[.int .i64 x, .int .i64 y, .int .i64 e] := by
  unfold OverV ovT
  split
  · split <;> exact ⟨_, _, _, rfl⟩
  · exact ⟨_, _, _, rfl⟩

set_option maxRecDepth 100000 in
set_option maxHeartbeats 2000000 in
theorem AlertStretches_walk (w : World) (A : Option Addr) (c : Nat) (L : List (Int × Int × Int)) (hr : RdT w w.heap.size A L) (_hm : L.length ≤ maxLen) (a b : Int) :
    Calls Try.prog 3 #[.slice A L.length c, .int .i64 a, .int .i64 b] w fun e w' => e = .returned (.bool true) ∧ Below w.heap.size w w' := by
  have HR := Lib.hid hr; clear hr
  by_cases hl : L.length ≤ 40
  · have hd : decide ((40 : Int) < L.length) = false := by simp; omega
    have hl2 : L.length ≤ 1125899906842624 := by omega
    obtain ⟨x, y, e, hov⟩ := OverV_form L
    have H1 := Lib.hid (fun W (hW : Below w.heap.size w W) => Overfull_any A c L W (HR.out.on hW) hl2)
    have H2 := Lib.hid (fun W (hW : Below w.heap.size w W) => refOverfull_any A c L W (HR.out.on hW) hl2)
    rw [hov] at H1 H2
    clear hov
    have H3 := Lib.hid (fun W (hW : Below w.heap.size w W) => Slack_any A c L W (HR.out.on hW) hl2)
    have H4 := Lib.hid (fun W (hW : Below w.heap.size w W) => refSlack_any A c L W (HR.out.on hW) hl2)
    unfold SlackV at H3 H4
    generalize valT (SlackE L) (slk L) = q1 at *
    generalize SlackE L = q2 at *
    have H5 := Lib.hid (fun W (hW : Below w.heap.size w W) => Demand_any A c L a b W (HR.out.on hW) hl2)
    have H6 := Lib.hid (fun W (hW : Below w.heap.size w W) => refDemand_any A c L a b W (HR.out.on hW) hl2)
    generalize valT (DemandE L a b) (dem L a b) = q3 at *
    generalize DemandE L a b = q4 at *
    clear HR
    generalize L.length = n at *
    go_enter Try.func3, Try.ntmps3
    go_wp2_with (first
      | (go_at_call 14; refine (Long_any _ _ _ _).mono ?_; rintro e w' ⟨rfl, rfl⟩)
      | (go_at_call 16; refine (H5.out _ (Below.refl _ _)).mono ?_; rintro e w1 ⟨rfl, h1⟩)
      | (go_at_call 17; refine (H6.out _ h1).mono ?_; rintro e w2 ⟨rfl, h2⟩; have h2 := h1.trs h2)
      | (go_at_call 18; refine (H3.out _ h2).mono ?_; rintro e w3 ⟨rfl, h3⟩; have h3 := h2.trs h3)
      | (go_at_call 19; refine (H4.out _ h3).mono ?_; rintro e w4 ⟨rfl, h4⟩; have h4 := h3.trs h4)
      | (go_at_call 20; refine (H1.out _ h4).mono ?_; rintro e w5 ⟨rfl, h5⟩; have h5 := h4.trs h5)
      | (go_at_call 21; refine (H2.out _ h5).mono ?_; rintro e w6 ⟨rfl, h6⟩; have h6 := h5.trs h6)
      | (go_at_call 15; refine (Sane_any _).mono ?_; rintro e w10 ⟨rfl, h10⟩))
    go_ret
    exact ⟨rfl, h6.trs h10⟩
  · have hd : decide ((40 : Int) < L.length) = true := by simp; omega
    go_enter Try.func3, Try.ntmps3
    go_wp2_with (first
      | (go_at_call 14; refine (Long_any _ _ _ _).mono ?_; rintro e w' ⟨rfl, rfl⟩)
      | (go_at_call 15; refine (Sane_any _).mono ?_; rintro e w10 ⟨rfl, h10⟩))
    go_ret
    exact ⟨rfl, h10⟩
end Go.Proofs.Ytdafiblnanpiiaa
