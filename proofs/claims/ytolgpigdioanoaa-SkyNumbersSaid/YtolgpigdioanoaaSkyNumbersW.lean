/- The walk of SkyNumbers. -/
import Derived.Test.YtolgpigdioanoaaSkyZ
namespace Go.Proofs.Ytolgpigdioanoaa
open Go.RowKit

set_option maxHeartbeats 2000000 in
theorem SkyNumbers_walk (w : World) (k p : Int) :
    Calls Try.prog 7 #[.int .i64 k, .int .i64 p] w fun e w' => e = .returned (.bool true) ∧ Below w.heap.size w w' := by
  obtain ⟨u1, e1, hu1⟩ : ∃ u er : Int, PixV k = Value.tuple #[.int .i64 u, .int .i64 er] := by unfold PixV; split <;> exact ⟨_, _, rfl⟩
  obtain ⟨u2, v2, x2, e2, hu2⟩ : ∃ u v x er : Int, PlaceV k p = Value.tuple #[.int .i64 u, .int .i64 v, .int .i64 x, .int .i64 er] := by unfold PlaceV; split <;> exact ⟨_, _, _, _, rfl⟩
  obtain ⟨u3, e3, hu3⟩ : ∃ u er : Int, RingV k p = Value.tuple #[.int .i64 u, .int .i64 er] := by unfold RingV; split <;> exact ⟨_, _, rfl⟩
  obtain ⟨u4, e4, hu4⟩ : ∃ u er : Int, FrmV k p = Value.tuple #[.int .i64 u, .int .i64 er] := by unfold FrmV; split <;> exact ⟨_, _, rfl⟩
  obtain ⟨u5, v5, e5, hu5⟩ : ∃ u v er : Int, RingOfV k p = Value.tuple #[.int .i64 u, .int .i64 v, .int .i64 er] := by unfold RingOfV; split <;> exact ⟨_, _, _, rfl⟩
  have A1 := Lib.hid (fun W => Pixels_any k W)
  have B1 := Lib.hid (fun W => refPixels_any k W)
  have A2 := Lib.hid (fun W => Place_any k p W)
  have B2 := Lib.hid (fun W => refPlace_any k p W)
  have A3 := Lib.hid (fun W => Ring_any k p W)
  have B3 := Lib.hid (fun W => refRing_any k p W)
  have A4 := Lib.hid (fun W => FromRing_any k p W)
  have B4 := Lib.hid (fun W => refFromRing_any k p W)
  have A5 := Lib.hid (fun W => RingOf_any k p W)
  have B5 := Lib.hid (fun W => refRingOf_any k p W)
  rw [hu1] at A1 B1
  rw [hu2] at A2 B2
  rw [hu3] at A3 B3
  rw [hu4] at A4 B4
  rw [hu5] at A5 B5
  clear hu1 hu2 hu3 hu4 hu5
  go_enter Try.func7, Try.ntmps7
  go_wp2_with (first
    | (go_at_call 25; refine (A1.out _).mono ?_; rintro e w1 ⟨rfl, h1⟩)
    | (go_at_call 30; refine (B1.out _).mono ?_; rintro e w' ⟨rfl, rfl⟩)
    | (go_at_call 31; refine (A2.out _).mono ?_; rintro e w2 ⟨rfl, h2⟩)
    | (go_at_call 32; refine (B2.out _).mono ?_; rintro e w3 ⟨rfl, h3⟩)
    | (go_at_call 33; refine (A3.out _).mono ?_; rintro e w4 ⟨rfl, h4⟩)
    | (go_at_call 34; refine (B3.out _).mono ?_; rintro e w5 ⟨rfl, h5⟩)
    | (go_at_call 35; refine (A4.out _).mono ?_; rintro e w6 ⟨rfl, h6⟩)
    | (go_at_call 36; refine (B4.out _).mono ?_; rintro e w7 ⟨rfl, h7⟩)
    | (go_at_call 37; refine (A5.out _).mono ?_; rintro e w8 ⟨rfl, h8⟩)
    | (go_at_call 38; refine (B5.out _).mono ?_; rintro e w9 ⟨rfl, h9⟩)
    | (go_at_call 22; refine (Sane_any _).mono ?_; rintro e w10 ⟨rfl, h10⟩))
  go_ret
  exact ⟨rfl, ((((((((h1.trs h2).trs h3).trs h4).trs h5).trs h6).trs h7).trs h8).trs h9).trs h10⟩
end Go.Proofs.Ytolgpigdioanoaa
