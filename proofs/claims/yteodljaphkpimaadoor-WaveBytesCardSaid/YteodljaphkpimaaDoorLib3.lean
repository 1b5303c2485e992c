/- More plain lemmas: a block of integers that is known whole; 'make([]int, n)'; 'append(a, b...)' of integers. -/
import Derived.Test.YteodljaphkpimaaDoorLib2
namespace Go.Proofs.YteodljaphkpimaaDoor
set_option linter.unusedVariables false
open Go.RowKit

/-- a block of integers that is known whole -/
def BoxI (w : World) (g : Nat) (l : List Int) : Prop := Box w g 3 (l.map (Value.int .i64)).toArray
theorem BoxI.lt {w : World} {g : Nat} {l : List Int} (h : BoxI w g l) : g < w.heap.size := Box.lt h
theorem BoxI.cell {w : World} {g : Nat} {l : List Int} (h : BoxI w g l) {k : Nat} (hk : k < l.length) : w.cell? ⟨g, k, none⟩ = some (.int .i64 (ix l k)) := by
  rw [Box.cell h]; simp [ix, hk]
theorem BoxI.frozen {w : World} {g : Nat} {l : List Int} (h : BoxI w g l) (k : Nat) : w.frozen? ⟨g, k, none⟩ = false := Box.frozen h k
theorem BoxI.on {w w' : World} {g : Nat} {l : List Int} (h : BoxI w g l) (hb : Below w.heap.size w w') : BoxI w' g l := Box.on h hb
theorem BoxI.keep {w w' : World} {B g : Nat} {l : List Int} (h : BoxI w g l) (hb : Below B w w') (hg : g < B) : BoxI w' g l := Box.keep h hb hg
theorem BoxI.alloc {w : World} {g : Nat} {l : List Int} (h : BoxI w g l) (o : Obj) : BoxI (w.alloc o) g l := Box.alloc h o
theorem BoxI.far {w : World} {g : Nat} {l : List Int} (h : BoxI w g l) {p : Addr} (hp : g ≠ p.block) (u : Value) : BoxI (w.setCell p u) g l := Box.far h hp u
theorem BoxI.set_ {w : World} {g : Nat} {l : List Int} (h : BoxI w g l) (k : Nat) (x : Int) : BoxI (w.setCell ⟨g, k, none⟩ (.int .i64 x)) g (l.set k x) := by
  have := Box.set_ h k (.int .i64 x)
  unfold BoxI
  rw [List.map_set]
  simpa using this
theorem BoxI.rd {w : World} {g : Nat} {l : List Int} (h : BoxI w g l) : RdI w w.heap.size (some ⟨g, 0, none⟩) l :=
  .inr ⟨g, 0, rfl, h.lt, fun k hk => by rw [Nat.zero_add]; exact h.cell hk⟩
theorem RdI.le {w : World} {B : Nat} {A : Option Addr} {l : List Int} (h : RdI w B A l) {w' : World} (hb : Below B w w') (hB : B ≤ w'.heap.size) : RdI w' w'.heap.size A l := (h.keep hb).more hB
/-- what 'make([]int, n)' lays -/
theorem BoxI.made (w : World) (n : Nat) (i : TypeInfo) (h : i.size = 1) : BoxI (w.alloc (.cells (madeCells (Value.int .i64 0).cells (n * i.size)) 3)) w.heap.size (List.replicate n 0) := by
  have e : (madeCells (Value.int .i64 0).cells (n * i.size)) = ((List.replicate n (0 : Int)).map (Value.int .i64)).toArray := by
    apply Array.ext'
    rw [h, Nat.mul_one]
    show (madeCells #[.int .i64 0] n).toList = _
    rw [toList_madeCells_one]
    simp
  unfold BoxI
  rw [← e]
  exact Box.new _ _ _
theorem run_make_int {P : Program} {T : TypeId} (hT : P.underlying T = some (.slice 3)) (hI : (P.info? 3).map (fun i => (i.zero, i.size, i.bytes)) = some (some (.int .i64 0), 1, 8)) (n : Int) (h0 : 0 ≤ n) (h1 : n ≤ 1000000) :
    ∃ cs : Array Value, (∀ w : World, (Instr.makeSlice T (.int .i64 n) (.int .i64 n)).run P w = .ok (.slice (some ⟨w.heap.size, 0, none⟩) n.toNat n.toNat) (w.alloc (.cells cs 3))) ∧ ∀ w : World, BoxI (w.alloc (.cells cs 3)) w.heap.size (List.replicate n.toNat 0) := by
  obtain ⟨i0, hi, hz0, hz1, hz2⟩ := info_parts hI
  exact ⟨_, fun w => run_make (P := P) w T 3 i0 (.int .i64 0) hT hi hz0 .i64 .i64 n n h0 (Int.le_refl _) (by rw [hz2]; omega) (by omega), fun w => BoxI.made w n.toNat i0 hz1⟩

theorem OwnI.less {w : World} {B B' : Nat} {e : TypeId} {v : Value} {l : List Int} (h : OwnI w B e v l) (hb : B' ≤ B) : OwnI w B' e v l := by
  have h' : w.ownsRow B e 1 v l.length (l.map (Value.int .i64)) := h
  refine ⟨h'.1, ?_⟩
  rcases h'.2 with h1 | ⟨g, cap, cur, h1, h2, h3⟩
  · exact .inl h1
  · exact .inr ⟨g, cap, cur, h1, by omega, h3⟩
section
variable {P : Program} {ops : Array Oper} {rest : List Oper} {o : Oper} {a : Act} {Q : Exit → Act → World → Prop}
/-- 'append(out, s...)', s not empty, of integers -/
theorem wp_app_ints (T : TypeId) (hgd : o.guard = none) (s x : Operand) (ho : o.op = .call { callee := .builtin .append, args := #[s, x], argTypes := #[T, T] })
    (hT : P.underlying T = some (.slice 3)) (hI : (P.info? 3).map (fun i => (i.zero, i.size, i.bytes)) = some (some (.int .i64 0), 1, 8))
    (W : World) (B : Nat) (v : Value) (l L : List Int) (A : Option Addr) (c : Nat) (hs : a.eval s = v) (hx : a.eval x = .slice A L.length c) (hown : OwnI W B 3 v l) (hr : RdI W W.heap.size A L) (hne : L ≠ []) (hlen : l.length ≤ 1000000) (hlen2 : L.length ≤ 1000000) (hB : B ≤ W.heap.size)
    (h : ∀ v' w', OwnI w' B 3 v' (l ++ L) → Below B W w' → Spared v l.length W w' → wpList P ops Q rest (a.put o.dst v') w') :
    wpList P ops Q (o :: rest) a W := by
  obtain ⟨i0, hi, hz0, hz1, hz2⟩ := info_parts hI
  rcases hr with h0 | ⟨b, off, rfl, hb, hc⟩
  · exact absurd h0 hne
  refine wpList_plain hgd fun K hK => wp_append_kept W s x T ho B 3 i0 (.int .i64 0) 1 8 hT hi hz0 hz1 hz2 rfl (by decide) v l.length _ hs hown ⟨b, off, none⟩ L.length c (L.map (Value.int .i64)) hx (by simp) ?_ (by simp [Value.oneCell']) (by unfold maxLen; omega) (by omega) hB ?_
  · intro j u hu
    rw [Addr.add_lit]
    have hj : j < L.length := by have := (List.getElem?_eq_some_iff.1 hu).1; simpa using this
    rw [hc j hj]
    simpa [ix, hj] using hu
  · intro v' w' h1 h2
    refine hK _ _ (h v' w' ?_ ?_ (by simpa using h2))
    · show w'.ownsRow B 3 1 v' (l ++ L).length ((l ++ L).map (Value.int .i64))
      simpa using h1
    · exact (Below.refl _ _).grown h2.by_ hB (fun k hk => (World.ownsRow.lt hown k hk).1)
end
end Go.Proofs.YteodljaphkpimaaDoor
