/- Walks over package ice and its reference: Lit, Down, Up, Middle. -/
import Derived.Test.YtbocedbonaeohaaIceJ
namespace Go.Proofs.Ytbocedbonaeohaa
set_option linter.unusedVariables false
open Go.RowKit

theorem isB_one {n : Nat} {x : Int} : isB (n + 1) [x] = btw 0 x n := by
  rw [Bool.eq_iff_iff]; simp [isB, btw]
def LitR (L : List (Int × Int)) (a s : Int) : Bool := btw 0 a (mets L).length && btw 0 s 100000
def LitE (L : List (Int × Int)) (a s : Int) : Int := gate (vld L) (LitR L a s)
def LitV (L : List (Int × Int)) (a s : Int) : Value := .tuple #[.int .i64 (val (LitE L a s) (up (mets L) a.toNat s)), .int .i64 (val (LitE L a s) (dn (mets L) a.toNat s)), .int .i64 (LitE L a s)]
theorem LitV_no {L : List (Int × Int)} {a s : Int} (h : LitE L a s ≠ 0) : LitV L a s = .tuple #[.int .i64 0, .int .i64 0, .int .i64 (LitE L a s)] := by
  rw [LitV, val_no h, val_no h]
theorem LitV_ok {L : List (Int × Int)} {a s : Int} (h : LitE L a s = 0) : LitV L a s = .tuple #[.int .i64 (up (mets L) a.toNat s), .int .i64 (dn (mets L) a.toNat s), .int .i64 0] := by
  rw [LitV, val_ok h, val_ok h, h]

theorem keepL {w1 W W' : World} {b b' o o' : Nat} {x y : Value} (h : Below W.heap.size W W') (hs : W.cell? ⟨b, o, none⟩ = some x ∧ W.cell? ⟨b', o', none⟩ = some y ∧ b' < W.heap.size ∧ Below w1.heap.size w1 W) (hb : b ≤ b' := by omega) :
    W'.cell? ⟨b, o, none⟩ = some x ∧ W'.cell? ⟨b', o', none⟩ = some y ∧ b' < W'.heap.size ∧ Below w1.heap.size w1 W' :=
  ⟨(h.cell (p := ⟨b, o, none⟩) (Nat.lt_of_le_of_lt hb hs.2.2.1)).trans hs.1, (h.cell (p := ⟨b', o', none⟩) hs.2.2.1).trans hs.2.1, Nat.lt_of_lt_of_le hs.2.2.1 h.size, hs.2.2.2.trs h⟩

end Go.Proofs.Ytbocedbonaeohaa
