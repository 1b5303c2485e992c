/- Walks over package sky and its reference: nested numbers. -/
import Derived.Test.YtgbpmleipdecgaaSkyE
namespace Go.Proofs.Ytgbpmleipdecgaa
set_option linter.unusedSimpArgs false
set_option linter.unusedVariables false
open Go.RowKit

/-- the first bits of two numbers by turns -/
def btF : Nat → Int → Int → Int
  | 0, _, _ => 0
  | i + 1, x, y => btF i x y + (x / 2 ^ i % 2) * 4 ^ i + (y / 2 ^ i % 2) * (2 * 4 ^ i)
theorem btF_split (k : Fin 5) (a b : Fin 16) : (a.val : Int) < 2 ^ k.val → (b.val : Int) < 2 ^ k.val → btF 4 a.val 0 + 2 * btF 4 b.val 0 = btF k.val a.val b.val := by
  revert k a b; decide +kernel
theorem btF_bound (a : Fin 16) : 0 ≤ btF 4 a.val 0 ∧ btF 4 a.val 0 ≤ 85 := by revert a; decide +kernel
theorem btF_bound2 (k : Fin 5) (a b : Fin 16) : 0 ≤ btF k.val a.val b.val ∧ btF k.val a.val b.val ≤ 255 := by revert k a b; decide +kernel

theorem sp_0 (a : Fin 16) : bits BinOp.or IntKind.i64 (btF 0 a.val 0) (wrap64 (bits BinOp.and IntKind.i64 (a.val : Int) 1)) = btF 1 a.val 0 := by revert a; decide +kernel
theorem sb_0 (a b : Fin 16) : wrap64 (wrap64 (btF 0 a.val b.val + wrap64 (bits BinOp.and IntKind.i64 (a.val : Int) 1)) + wrap64 (bits BinOp.and IntKind.i64 (b.val : Int) 1 * 2)) = btF 1 a.val b.val := by revert a b; decide +kernel
theorem sp_1 (a : Fin 16) : bits BinOp.or IntKind.i64 (btF 1 a.val 0) (wrap64 (bits BinOp.and IntKind.i64 ((a.val : Int) / 2) 1 * 4)) = btF 2 a.val 0 := by revert a; decide +kernel
theorem sb_1 (a b : Fin 16) : wrap64 (wrap64 (btF 1 a.val b.val + wrap64 (bits BinOp.and IntKind.i64 ((a.val : Int) / 2) 1 * 4)) + wrap64 (bits BinOp.and IntKind.i64 ((b.val : Int) / 2) 1 * 8)) = btF 2 a.val b.val := by revert a b; decide +kernel
theorem sp_2 (a : Fin 16) : bits BinOp.or IntKind.i64 (btF 2 a.val 0) (wrap64 (bits BinOp.and IntKind.i64 ((a.val : Int) / 4) 1 * 16)) = btF 3 a.val 0 := by revert a; decide +kernel
theorem sb_2 (a b : Fin 16) : wrap64 (wrap64 (btF 2 a.val b.val + wrap64 (bits BinOp.and IntKind.i64 ((a.val : Int) / 4) 1 * 16)) + wrap64 (bits BinOp.and IntKind.i64 ((b.val : Int) / 4) 1 * 32)) = btF 3 a.val b.val := by revert a b; decide +kernel
theorem sp_3 (a : Fin 16) : bits BinOp.or IntKind.i64 (btF 3 a.val 0) (wrap64 (bits BinOp.and IntKind.i64 ((a.val : Int) / 8) 1 * 64)) = btF 4 a.val 0 := by revert a; decide +kernel
theorem sb_3 (a b : Fin 16) : wrap64 (wrap64 (btF 3 a.val b.val + wrap64 (bits BinOp.and IntKind.i64 ((a.val : Int) / 8) 1 * 64)) + wrap64 (bits BinOp.and IntKind.i64 ((b.val : Int) / 8) 1 * 128)) = btF 4 a.val b.val := by revert a b; decide +kernel

theorem spread_fin (a : Fin 16) (w : World) :
    Calls Try.prog 63 #[.int .i64 (a.val : Int)] w fun e w' => e = .returned (.int .i64 (btF 4 a.val 0)) ∧ w = w' := by
  go_enter Try.func63, Try.ntmps63
  go_wp2
  go_loopg [3, 4, 5] 4 (fun k s t u wr => ((s = .int .i64 (btF 0 a.val 0) ∧ u = .int .i64 0 ∧ 4 ≤ k) ∨ (s = .int .i64 (btF 1 a.val 0) ∧ u = .int .i64 1 ∧ 3 ≤ k) ∨ (s = .int .i64 (btF 2 a.val 0) ∧ u = .int .i64 2 ∧ 2 ≤ k) ∨ (s = .int .i64 (btF 3 a.val 0) ∧ u = .int .i64 3 ∧ 1 ≤ k) ∨ (s = .int .i64 (btF 4 a.val 0) ∧ u = .int .i64 4)) ∧ w = wr)
  case atStart => exact ⟨.inl ⟨rfl, rfl, by omega⟩, rfl⟩
  case round =>
    obtain ⟨h, rfl⟩ := hrel
    rcases h with ⟨rfl, rfl, hk⟩ | ⟨rfl, rfl, hk⟩ | ⟨rfl, rfl, hk⟩ | ⟨rfl, rfl, hk⟩ | ⟨rfl, rfl⟩
    · go_wp2
      go_roundg 3
      case measure => omega
      case rel => exact ⟨.inr (.inl ⟨congrArg (Value.int IntKind.i64) (sp_0 a), rfl, by omega⟩), rfl⟩
    · go_wp2
      go_roundg 2
      case measure => omega
      case rel => exact ⟨.inr (.inr (.inl ⟨congrArg (Value.int IntKind.i64) (sp_1 a), rfl, by omega⟩)), rfl⟩
    · go_wp2
      go_roundg 1
      case measure => omega
      case rel => exact ⟨.inr (.inr (.inr (.inl ⟨congrArg (Value.int IntKind.i64) (sp_2 a), rfl, by omega⟩))), rfl⟩
    · go_wp2
      go_roundg 0
      case measure => omega
      case rel => exact ⟨.inr (.inr (.inr (.inr ⟨congrArg (Value.int IntKind.i64) (sp_3 a), rfl⟩))), rfl⟩
    · go_wp2
      go_ret
      exact ⟨rfl, rfl⟩

end Go.Proofs.Ytgbpmleipdecgaa
