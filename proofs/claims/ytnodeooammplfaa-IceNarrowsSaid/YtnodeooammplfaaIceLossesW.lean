/- The walk of the law IceLosses. -/
import Derived.Test.YtnodeooammplfaaIceI
import Derived.Laws.StructEq
namespace Go.Proofs.Ytnodeooammplfaa
set_option linter.unusedVariables false
open Go.RowKit

theorem Long_any (A : Option Addr) (n c : Nat) (w : World) :
    Calls Try.prog 16 #[.slice A n c] w fun e w' => e = .returned (.bool (decide ((60 : Int) < n))) ∧ w = w' := by
  go_enter Try.func16, Try.ntmps16
  go_wp2
  go_ret
  exact ⟨rfl, rfl⟩

theorem box2_on {w w' : World} {t : TypeId} {a b : Int} (h : Below (w.alloc (.cells #[.int .i64 a, .int .i64 b] t)).heap.size (w.alloc (.cells #[.int .i64 a, .int .i64 b] t)) w') :
    w'.cell? ⟨w.heap.size, 0, none⟩ = some (.int .i64 a) ∧ w'.cell? ⟨w.heap.size, 1, none⟩ = some (.int .i64 b) ∧ w.heap.size < w'.heap.size := by
  have hb := (Box.new w t #[.int .i64 a, .int .i64 b]).on h
  exact ⟨hb.cell 0, hb.cell 1, hb.lt⟩

theorem Sane_any (w : World) : Calls Try.prog 17 #[] w fun e w' => e = .returned (.bool true) ∧ Below w.heap.size w w' := by
  have H := Loss_any (some ⟨w.heap.size, 0, none⟩) 2 [(2, 1), (3, 4)] 0 3 _ (RdP.two w 2 1 3 4 55) (by decide)
  have he : LossE [(2, 1), (3, 4)] 0 3 = 0 := by decide
  have hv : LossV [(2, 1), (3, 4)] 0 3 = 6 := by decide
  rw [he, hv, val_ok rfl] at H
  have HH := Lib.hid H; clear H he hv
  go_enter Try.func17, Try.ntmps17
  go_wp2_with (go_at_call 24; refine HH.out.mono ?_; rintro e w1 ⟨rfl, hB⟩)
  go_ret
  exact ⟨rfl, (below_alloc _ _).trs hB⟩

set_option maxRecDepth 100000 in
set_option maxHeartbeats 2000000 in
theorem IceLosses_walk (w : World) (A : Option Addr) (c : Nat) (L : List (Int × Int)) (hr : RdP w w.heap.size A L) (_hm : L.length ≤ maxLen) (x y : Int) :
    Calls Try.prog 3 #[.slice A L.length c, .int .i64 x, .int .i64 y] w fun e w' => e = .returned (.bool true) ∧ Below w.heap.size w w' := by
  have HR := Lib.hid hr; clear hr
  by_cases hl : L.length ≤ 60
  · have hd : decide ((60 : Int) < L.length) = false := by simp; omega
    have hl2 : L.length ≤ 1125899906842624 := by omega
    obtain ⟨m1, m2, m3, hmv⟩ : ∃ m1 m2 m3 : Int, MeanV L x y = .tuple #[.agg #[.int .i64 m1, .int .i64 m2], .int .i64 m3] := ⟨_, _, _, rfl⟩
    have HM1 : Hid (∀ W : World, Below w.heap.size w W → Calls Try.prog 26 #[.slice A L.length c, .int .i64 x, .int .i64 y] W fun e w' => e = .returned (.tuple #[.agg #[.int .i64 m1, .int .i64 m2], .int .i64 m3]) ∧ Below W.heap.size W w') := fun W h => by rw [← hmv]; exact Mean_any A c L x y W (HR.out.on h) hl2
    have HM2 : Hid (∀ W : World, Below w.heap.size w W → Calls Try.prog 27 #[.slice A L.length c, .int .i64 x, .int .i64 y] W fun e w' => e = .returned (.tuple #[.agg #[.int .i64 m1, .int .i64 m2], .int .i64 m3]) ∧ Below W.heap.size W w') := fun W h => by rw [← hmv]; exact refMean_any A c L x y W (HR.out.on h) hl2
    clear hmv
    go_enter Try.func3, Try.ntmps3
    go_wp2_with (first
      | (go_at_call 16; refine (Long_any _ _ _ _).mono ?_; rintro e w' ⟨rfl, rfl⟩)
      | (go_at_call 18; refine (Depth_any _ _ _ _ HR.out (by omega)).mono ?_; rintro e w1 ⟨rfl, h1⟩)
      | (go_at_call 19; refine (refDepth_any _ _ _ _ (HR.out.on h1) (by omega)).mono ?_; rintro e w2 ⟨rfl, h2⟩; have h2 := h1.trs h2)
      | (go_at_call 20; refine (Valid_any _ _ _ _ (HR.out.on h2) (by omega)).mono ?_; rintro e w3 ⟨rfl, h3⟩; have h3 := h2.trs h3)
      | (go_at_call 21; refine (refValid_any _ _ _ _ (HR.out.on h3) (by omega)).mono ?_; rintro e w' ⟨rfl, rfl⟩)
      | (go_at_call 22; refine (Dim_any _ _ _ _ _ (HR.out.on h3) (by omega)).mono ?_; rintro e w4 ⟨rfl, h4⟩; have h4 := h3.trs h4)
      | (go_at_call 23; refine (refDim_any _ _ _ _ _ (HR.out.on h4) (by omega)).mono ?_; rintro e w5 ⟨rfl, h5⟩; have h5 := h4.trs h5)
      | (go_at_call 24; refine (Loss_any _ _ _ _ _ _ (HR.out.on h5) (by omega)).mono ?_; rintro e w6 ⟨rfl, h6⟩; have h6 := h5.trs h6)
      | (go_at_call 25; refine (refLoss_any _ _ _ _ _ _ (HR.out.on h6) (by omega)).mono ?_; rintro e w7 ⟨rfl, h7⟩; have h7 := h6.trs h7)
      | (go_at_call 26; refine (HM1.out _ h7).mono ?_; rintro e w8 ⟨rfl, h8⟩; have h8 := h7.trs h8)
      | (go_at_call 27; refine (HM2.out _ (h8.trs (below_alloc _ _))).mono ?_; rintro e w9 ⟨rfl, h9⟩; obtain ⟨q1, q2, q3⟩ := box2_on h9; have h9 := (h8.trs (below_alloc _ _)).trs h9)
      | (go_at_call 17; refine (Sane_any _).mono ?_; rintro e w10 ⟨rfl, h10⟩))
    go_ret
    exact ⟨rfl, (h9.trs (below_alloc _ _)).trs h10⟩
  · have hd : decide ((60 : Int) < L.length) = true := by simp; omega
    go_enter Try.func3, Try.ntmps3
    go_wp2_with (first
      | (go_at_call 16; refine (Long_any _ _ _ _).mono ?_; rintro e w' ⟨rfl, rfl⟩)
      | (go_at_call 17; refine (Sane_any _).mono ?_; rintro e w10 ⟨rfl, h10⟩))
    go_ret
    exact ⟨rfl, h10⟩
end Go.Proofs.Ytnodeooammplfaa
