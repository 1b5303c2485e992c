/- More plain laws on appends to rows of the call's own: the element lies in a block that is known whole. -/
import Derived.Test.YteodljaphkpimaaDoorLib
namespace Go.Proofs.YteodljaphkpimaaDoor
set_option linter.unusedVariables false
open Go.RowKit
section
variable {P : Program} {ops : Array Oper} {rest : List Oper} {o : Oper} {a : Act} {Q : Exit → Act → World → Prop}
theorem wp_app_int' (T : TypeId) (hgd : o.guard = none) (s x : Operand) (ho : o.op = .call { callee := .builtin .append, args := #[s, x], argTypes := #[T, T] })
    (hT : P.underlying T = some (.slice 3)) (hI : (P.info? 3).map (fun i => (i.zero, i.size, i.bytes)) = some (some (.int .i64 0), 1, 8))
    (W : World) (B nb : Nat) (v : Value) (l : List Int) (y : Int) (hs : a.eval s = v) (hx : a.eval x = .slice (some ⟨nb, 0, none⟩) 1 1) (hown : OwnI W B 3 v l) (hbx : Box W nb 3 #[.int .i64 y]) (hlen : l.length ≤ 1000000) (hB : B ≤ W.heap.size)
    (h : ∀ v' w', OwnI w' B 3 v' (l ++ [y]) → Below B W w' → Spared v l.length W w' → wpList P ops Q rest (a.put o.dst v') w') :
    wpList P ops Q (o :: rest) a W :=
  wpList_plain hgd fun K hK => by
    have := step_app_int (P := P) (ops := ops) (o := o) (a := a) (Q := Q) (K := K) (E := False) T hgd s x ho hT hI W B nb v l y hs hx hown hbx hlen hB (fun v' w' h1 h2 h3 => hK _ _ (h v' w' h1 h2 h3))
    rwa [if_pos (by simp [Region.wanted, hgd])] at this
theorem wp_app_pair' (T e : TypeId) (hgd : o.guard = none) (s x : Operand) (ho : o.op = .call { callee := .builtin .append, args := #[s, x], argTypes := #[T, T] })
    (hT : P.underlying T = some (.slice e)) (hI : (P.info? e).map (fun i => (i.zero, i.size, i.bytes)) = some (some (.agg #[.int .i64 0, .int .i64 0]), 2, 16))
    (W : World) (B nb : Nat) (v : Value) (l : List (Int × Int)) (y z : Int) (hs : a.eval s = v) (hx : a.eval x = .slice (some ⟨nb, 0, none⟩) 1 1) (hown : OwnP W B e v l) (hbx : Box W nb e #[.int .i64 y, .int .i64 z]) (hlen : l.length ≤ 1000000) (hB : B ≤ W.heap.size)
    (h : ∀ v' w', OwnP w' B e v' (l ++ [(y, z)]) → Below B W w' → Spared v (l.length * 2) W w' → wpList P ops Q rest (a.put o.dst v') w') :
    wpList P ops Q (o :: rest) a W :=
  wpList_plain hgd fun K hK => by
    have := step_app_pair (P := P) (ops := ops) (o := o) (a := a) (Q := Q) (K := K) (E := False) T e hgd s x ho hT hI W B nb v l y z hs hx hown hbx hlen hB (fun v' w' h1 h2 h3 => hK _ _ (h v' w' h1 h2 h3))
    rwa [if_pos (by simp [Region.wanted, hgd])] at this
end
end Go.Proofs.YteodljaphkpimaaDoor
