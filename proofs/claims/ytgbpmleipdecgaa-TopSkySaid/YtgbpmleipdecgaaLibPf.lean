/- An append of a pair, and where the row lies; a row stays where another block is written. -/
import Derived.Test.YtgbpmleipdecgaaLib4
namespace Go.Proofs.Ytgbpmleipdecgaa
open Go.RowKit
set_option linter.unusedSimpArgs false
set_option linter.unusedVariables false

theorem OwnP.far {w : World} {B : Nat} {e : TypeId} {v : Value} {l : List (Int × Int)} (h : OwnP w B e v l) {p : Addr} (hp : p.block < B) (u : Value) : OwnP (w.setCell p u) B e v l := by
  have h' : w.ownsRow B e 2 v l.length (cells2 l) := h
  refine ⟨h'.1, ?_⟩
  rcases h'.2 with h1 | ⟨g, cap, cur, h1, h2, h3, h4⟩
  · exact .inl h1
  · exact .inr ⟨g, cap, cur, h1, h2, (Below.heap_setCell w p u g (by omega)).trans h3, h4⟩
theorem OwnP.own_ge {w : World} {B : Nat} {e : TypeId} {v : Value} {l : List (Int × Int)} (h : OwnP w B e v l) {k : Nat} (hk : k < B) : v.ownBlock ≠ some k := fun hv => by
  have := (World.ownsRow.lt h k hv).1
  omega
section
variable {P : Program} {ops : Array Oper} {rest : List Oper} {o : Oper} {a : Act} {Q : Exit → Act → World → Prop} {K : Act → World → Prop}
theorem op_app_pair2 (T e : TypeId) (s x : Operand) (ho : o.op = .call { callee := .builtin .append, args := #[s, x], argTypes := #[T, T] })
    (hT : P.underlying T = some (.slice e)) (hI : (P.info? e).map (fun i => (i.zero, i.size, i.bytes)) = some (some (.agg #[.int .i64 0, .int .i64 0]), 2, 16))
    (W : World) (B nb : Nat) (v : Value) (l : List (Int × Int)) (y z : Int) (hs : a.eval s = v) (hx : a.eval x = .slice (some ⟨nb, 0, none⟩) 1 1) (hown : OwnP W B e v l) (hbx : Box W nb e #[.int .i64 y, .int .i64 z]) (hlen : l.length ≤ 1000000) (hB : B ≤ W.heap.size)
    (h : ∀ v' w', OwnP w' B e v' (l ++ [(y, z)]) → Below B W w' → Spared v (l.length * 2) W w' → Fresh v v' W.heap.size → K (a.put o.dst v') w') : Oper.wp P o a W K Q := by
  obtain ⟨i0, hi, hz0, hz1, hz2⟩ := info_parts hI
  refine wp_append_fresh W s x T ho B e i0 (.agg #[.int .i64 0, .int .i64 0]) 2 16 hT hi hz0 hz1 hz2 rfl (by decide) v l.length _ hs hown ⟨nb, 0, none⟩ 1 1 [.int .i64 y, .int .i64 z] hx rfl (World.news_of_block hbx) (by simp [Value.oneCell']) (by unfold maxLen; omega) (by omega) hB ?_
  intro v' w' h1 h2 h3
  refine h v' w' ?_ ?_ h2 h3
  · show w'.ownsRow B e 2 v' (l ++ [(y, z)]).length (cells2 (l ++ [(y, z)]))
    simpa [cells2] using h1
  · exact (Below.refl _ _).grown h2.by_ hB (fun k hk => (World.ownsRow.lt hown k hk).1)
theorem wp_app_pair2 (T e : TypeId) (hgd : o.guard = none) (s x : Operand) (ho : o.op = .call { callee := .builtin .append, args := #[s, x], argTypes := #[T, T] })
    (hT : P.underlying T = some (.slice e)) (hI : (P.info? e).map (fun i => (i.zero, i.size, i.bytes)) = some (some (.agg #[.int .i64 0, .int .i64 0]), 2, 16))
    (W : World) (B nb : Nat) (v : Value) (l : List (Int × Int)) (y z : Int) (hs : a.eval s = v) (hx : a.eval x = .slice (some ⟨nb, 0, none⟩) 1 1) (hown : OwnP W B e v l) (hbx : Box W nb e #[.int .i64 y, .int .i64 z]) (hlen : l.length ≤ 1000000) (hB : B ≤ W.heap.size)
    (h : ∀ v' w', OwnP w' B e v' (l ++ [(y, z)]) → Below B W w' → Spared v (l.length * 2) W w' → Fresh v v' W.heap.size → wpList P ops Q rest (a.put o.dst v') w') :
    wpList P ops Q (o :: rest) a W :=
  wpList_plain hgd fun K hK => op_app_pair2 T e s x ho hT hI W B nb v l y z hs hx hown hbx hlen hB (fun v' w' h1 h2 h3 h4 => hK _ _ (h v' w' h1 h2 h3 h4))
end
end Go.Proofs.Ytgbpmleipdecgaa
