/- Slices of bytes: reading, rows of the call's own, blocks known whole, make, append. (Printed out of the like texts for integers.) -/
import Derived.Test.YtkjiancdhaocaaaDoorLib2
namespace Go.Proofs.YtkjiancdhaocaaaDoor
open Go.RowKit
set_option linter.unusedVariables false

def RdY (w : World) (B : Nat) (A : Option Addr) (l : List Int) : Prop :=
  l = [] ∨ ∃ b o, A = some ⟨b, o, none⟩ ∧ b < B ∧ ∀ k, k < l.length → w.cell? ⟨b, o + k, none⟩ = some (.int .u8 (ix l k))
theorem RdY.keep {w w' : World} {B : Nat} {A : Option Addr} {l : List Int} (h : RdY w B A l) (hb : Below B w w') : RdY w' B A l := by
  rcases h with h | ⟨b, o, h1, h2, h3⟩
  · exact .inl h
  · exact .inr ⟨b, o, h1, h2, fun k hk => (hb.cell (p := ⟨b, o + k, none⟩) h2).trans (h3 k hk)⟩
theorem RdY.more {w : World} {B B' : Nat} {A : Option Addr} {l : List Int} (h : RdY w B A l) (hb : B ≤ B') : RdY w B' A l := by
  rcases h with h | ⟨b, o, h1, h2, h3⟩
  · exact .inl h
  · exact .inr ⟨b, o, h1, by omega, h3⟩
theorem RdY.on {w w' : World} {A : Option Addr} {l : List Int} (h : RdY w w.heap.size A l) (hb : Below w.heap.size w w') : RdY w' w'.heap.size A l := (h.keep hb).more hb.size
theorem RdY.at_ {w : World} {B : Nat} {A : Option Addr} {l : List Int} (h : RdY w B A l) {k : Nat} (hk : k < l.length) :
    ∃ b o, A = some ⟨b, o, none⟩ ∧ b < B ∧ w.cell? ⟨b, o + k, none⟩ = some (.int .u8 (ix l k)) := by
  rcases h with rfl | ⟨b, o, h1, h2, h3⟩
  · simp at hk
  · exact ⟨b, o, h1, h2, h3 k hk⟩

/-- The slice value v is of the call's own (blocks from B on) and holds the integers l. -/
def OwnY (w : World) (B : Nat) (e : TypeId) (v : Value) (l : List Int) : Prop := w.ownsRow B e 1 v l.length (l.map (Value.int .u8))
theorem OwnY.nil (w : World) (B : Nat) (e : TypeId) : OwnY w B e (.slice none 0 0) [] := World.ownsRow_nil _ _ _ _
theorem OwnY.form {w : World} {B : Nat} {e : TypeId} {v : Value} {l : List Int} (h : OwnY w B e v l) :
    (v = .slice none 0 0 ∧ l = []) ∨ ∃ g c, v = .slice (some ⟨g, 0, none⟩) l.length c ∧ B ≤ g ∧ g < w.heap.size ∧ l.length ≤ c ∧ c ≤ maxLen ∧ (∀ k, k < l.length → w.cell? ⟨g, k, none⟩ = some (.int .u8 (ix l k))) ∧ ∀ k, w.frozen? ⟨g, k, none⟩ = false := by
  have h' : w.ownsRow B e 1 v l.length (l.map (Value.int .u8)) := h
  rcases h'.2 with ⟨h1, h2⟩ | ⟨g, cap, cur, rfl, hb, hg, hc, hm, hs, ht⟩
  · exact .inl ⟨h1, List.eq_nil_of_length_eq_zero h2⟩
  · refine .inr ⟨g, cap, rfl, hb, (Array.getElem?_eq_some_iff.1 hg).1, hc, hm, fun k hk => ?_, fun k => h'.frozenAt k⟩
    rw [h'.cellAt k (by omega)]
    simp [ix, hk]
theorem OwnY.rd {w : World} {B : Nat} {e : TypeId} {v : Value} {l : List Int} (h : OwnY w B e v l) : ∃ A c, v = .slice A l.length c ∧ RdY w w.heap.size A l := by
  rcases h.form with ⟨rfl, rfl⟩ | ⟨g, c, rfl, _, hg, _, _, hc, _⟩
  · exact ⟨none, 0, rfl, .inl rfl⟩
  · exact ⟨_, c, rfl, .inr ⟨g, 0, rfl, hg, fun k hk => by rw [Nat.zero_add]; exact hc k hk⟩⟩
theorem OwnY.kept {w w' : World} {B : Nat} {e : TypeId} {v : Value} {l : List Int} (h : OwnY w B e v l) (hb : Below w.heap.size w w') : OwnY w' B e v l := by
  have h' : w.ownsRow B e 1 v l.length (l.map (Value.int .u8)) := h
  exact h'.kept (row := none) ⟨hb.os, hb.tape, hb.output, hb.size, fun k hk _ => hb.block k hk⟩ (by cases v.ownBlock <;> simp)

theorem OwnY.less {w : World} {B B' : Nat} {e : TypeId} {v : Value} {l : List Int} (h : OwnY w B e v l) (hb : B' ≤ B) : OwnY w B' e v l := by
  have h' : w.ownsRow B e 1 v l.length (l.map (Value.int .u8)) := h
  refine ⟨h'.1, ?_⟩
  rcases h'.2 with h1 | ⟨g, cap, cur, h1, h2, h3⟩
  · exact .inl h1
  · exact .inr ⟨g, cap, cur, h1, by omega, h3⟩
/-- a block of integers that is known whole -/
def BoxY (w : World) (g : Nat) (l : List Int) : Prop := Box w g 5 (l.map (Value.int .u8)).toArray
theorem BoxY.lt {w : World} {g : Nat} {l : List Int} (h : BoxY w g l) : g < w.heap.size := Box.lt h
theorem BoxY.cell {w : World} {g : Nat} {l : List Int} (h : BoxY w g l) {k : Nat} (hk : k < l.length) : w.cell? ⟨g, k, none⟩ = some (.int .u8 (ix l k)) := by
  rw [Box.cell h]; simp [ix, hk]
theorem BoxY.frozen {w : World} {g : Nat} {l : List Int} (h : BoxY w g l) (k : Nat) : w.frozen? ⟨g, k, none⟩ = false := Box.frozen h k
theorem BoxY.on {w w' : World} {g : Nat} {l : List Int} (h : BoxY w g l) (hb : Below w.heap.size w w') : BoxY w' g l := Box.on h hb
theorem BoxY.keep {w w' : World} {B g : Nat} {l : List Int} (h : BoxY w g l) (hb : Below B w w') (hg : g < B) : BoxY w' g l := Box.keep h hb hg
theorem BoxY.alloc {w : World} {g : Nat} {l : List Int} (h : BoxY w g l) (o : Obj) : BoxY (w.alloc o) g l := Box.alloc h o
theorem BoxY.far {w : World} {g : Nat} {l : List Int} (h : BoxY w g l) {p : Addr} (hp : g ≠ p.block) (u : Value) : BoxY (w.setCell p u) g l := Box.far h hp u
theorem BoxY.set_ {w : World} {g : Nat} {l : List Int} (h : BoxY w g l) (k : Nat) (x : Int) : BoxY (w.setCell ⟨g, k, none⟩ (.int .u8 x)) g (l.set k x) := by
  have := Box.set_ h k (.int .u8 x)
  unfold BoxY
  rw [List.map_set]
  simpa using this
theorem BoxY.rd {w : World} {g : Nat} {l : List Int} (h : BoxY w g l) : RdY w w.heap.size (some ⟨g, 0, none⟩) l :=
  .inr ⟨g, 0, rfl, h.lt, fun k hk => by rw [Nat.zero_add]; exact h.cell hk⟩
theorem RdY.le {w : World} {B : Nat} {A : Option Addr} {l : List Int} (h : RdY w B A l) {w' : World} (hb : Below B w w') (hB : B ≤ w'.heap.size) : RdY w' w'.heap.size A l := (h.keep hb).more hB
/-- what 'make([]int, n)' lays -/
theorem BoxY.made (w : World) (n : Nat) (i : TypeInfo) (h : i.size = 1) : BoxY (w.alloc (.cells (madeCells (Value.int .u8 0).cells (n * i.size)) 5)) w.heap.size (List.replicate n 0) := by
  have e : (madeCells (Value.int .u8 0).cells (n * i.size)) = ((List.replicate n (0 : Int)).map (Value.int .u8)).toArray := by
    apply Array.ext'
    rw [h, Nat.mul_one]
    show (madeCells #[.int .u8 0] n).toList = _
    rw [toList_madeCells_one]
    simp
  unfold BoxY
  rw [← e]
  exact Box.new _ _ _
theorem run_make_byte {P : Program} {T : TypeId} (hT : P.underlying T = some (.slice 5)) (hI : (P.info? 5).map (fun i => (i.zero, i.size, i.bytes)) = some (some (.int .u8 0), 1, 1)) (n : Int) (h0 : 0 ≤ n) (h1 : n ≤ 1000000) :
    ∃ cs : Array Value, (∀ w : World, (Instr.makeSlice T (.int .i64 n) (.int .i64 n)).run P w = .ok (.slice (some ⟨w.heap.size, 0, none⟩) n.toNat n.toNat) (w.alloc (.cells cs 5))) ∧ ∀ w : World, BoxY (w.alloc (.cells cs 5)) w.heap.size (List.replicate n.toNat 0) := by
  obtain ⟨i0, hi, hz0, hz1, hz2⟩ := info_parts hI
  exact ⟨_, fun w => run_make (P := P) w T 5 i0 (.int .u8 0) hT hi hz0 .i64 .i64 n n h0 (Int.le_refl _) (by rw [hz2]; omega) (by omega), fun w => BoxY.made w n.toNat i0 hz1⟩

section
variable {P : Program} {ops : Array Oper} {rest : List Oper} {o : Oper} {a : Act} {Q : Exit → Act → World → Prop} {K : Act → World → Prop} {E : Prop}
theorem step_app_byte (T : TypeId) (hgd : o.guard = none) (s x : Operand) (ho : o.op = .call { callee := .builtin .append, args := #[s, x], argTypes := #[T, T] })
    (hT : P.underlying T = some (.slice 5)) (hI : (P.info? 5).map (fun i => (i.zero, i.size, i.bytes)) = some (some (.int .u8 0), 1, 1))
    (W : World) (B nb : Nat) (v : Value) (l : List Int) (y : Int) (hs : a.eval s = v) (hx : a.eval x = .slice (some ⟨nb, 0, none⟩) 1 1) (hown : OwnY W B 5 v l) (hbx : Box W nb 5 #[.int .u8 y]) (hlen : l.length ≤ 1000000) (hB : B ≤ W.heap.size)
    (h : ∀ v' w', OwnY w' B 5 v' (l ++ [y]) → Below B W w' → Spared v l.length W w' → K (a.put o.dst v') w') :
    if Region.wanted o (yielded ops a.tmps) = true then Oper.wp P o a W K Q else E := by
  have hw : Region.wanted o (yielded ops a.tmps) = true := by simp [Region.wanted, hgd]
  rw [if_pos hw]
  obtain ⟨i0, hi, hz0, hz1, hz2⟩ := info_parts hI
  refine wp_append_kept W s x T ho B 5 i0 (.int .u8 0) 1 1 hT hi hz0 hz1 hz2 rfl (by decide) v l.length _ hs hown ⟨nb, 0, none⟩ 1 1 [.int .u8 y] hx rfl (World.news_of_block hbx) (by simp [Value.oneCell']) (by unfold maxLen; omega) (by omega) hB ?_
  intro v' w' h1 h2
  refine h v' w' ?_ ?_ (by simpa using h2)
  · show w'.ownsRow B 5 1 v' (l ++ [y]).length ((l ++ [y]).map (Value.int .u8))
    simpa using h1
  · exact (Below.refl _ _).grown h2.by_ hB (fun k hk => (World.ownsRow.lt hown k hk).1)
theorem wp_app_byte (T : TypeId) (hgd : o.guard = none) (s x : Operand) (ho : o.op = .call { callee := .builtin .append, args := #[s, x], argTypes := #[T, T] })
    (hT : P.underlying T = some (.slice 5)) (hI : (P.info? 5).map (fun i => (i.zero, i.size, i.bytes)) = some (some (.int .u8 0), 1, 1))
    (W : World) (B : Nat) (v : Value) (l : List Int) (y : Int) (hs : a.eval s = v) (hx : a.eval x = .slice (some ⟨W.heap.size, 0, none⟩) 1 1) (hown : OwnY W B 5 v l) (hlen : l.length ≤ 1000000) (hB : B ≤ W.heap.size)
    (h : ∀ v' w', OwnY w' B 5 v' (l ++ [y]) → Below B W w' → Spared v l.length W w' → wpList P ops Q rest (a.put o.dst v') w') :
    wpList P ops Q (o :: rest) a (W.alloc (.cells #[.int .u8 y] 5)) := by
  obtain ⟨i0, hi, hz0, hz1, hz2⟩ := info_parts hI
  refine wpList_plain hgd fun K hK => wp_append_kept _ s x T ho B 5 i0 (.int .u8 0) 1 1 hT hi hz0 hz1 hz2 rfl (by decide) v l.length _ hs (World.ownsRow.alloc hown _) ⟨W.heap.size, 0, none⟩ 1 1 [.int .u8 y] hx rfl (cell_one_new _ _ _) (by simp [Value.oneCell']) (by unfold maxLen; omega) (by omega) (by simp; omega) ?_
  intro v' w' h1 h2
  have hg : Spared v l.length W w' := by simpa using h2.alloc (fun g hg => (World.ownsRow.lt hown g hg).2)
  refine hK _ _ (h v' w' ?_ ?_ hg)
  · show w'.ownsRow B 5 1 v' (l ++ [y]).length ((l ++ [y]).map (Value.int .u8))
    simpa using h1
  · exact (Below.refl _ _).grown hg.by_ hB (fun k hk => (World.ownsRow.lt hown k hk).1)
theorem wp_app_byte' (T : TypeId) (hgd : o.guard = none) (s x : Operand) (ho : o.op = .call { callee := .builtin .append, args := #[s, x], argTypes := #[T, T] })
    (hT : P.underlying T = some (.slice 5)) (hI : (P.info? 5).map (fun i => (i.zero, i.size, i.bytes)) = some (some (.int .u8 0), 1, 1))
    (W : World) (B nb : Nat) (v : Value) (l : List Int) (y : Int) (hs : a.eval s = v) (hx : a.eval x = .slice (some ⟨nb, 0, none⟩) 1 1) (hown : OwnY W B 5 v l) (hbx : Box W nb 5 #[.int .u8 y]) (hlen : l.length ≤ 1000000) (hB : B ≤ W.heap.size)
    (h : ∀ v' w', OwnY w' B 5 v' (l ++ [y]) → Below B W w' → Spared v l.length W w' → wpList P ops Q rest (a.put o.dst v') w') :
    wpList P ops Q (o :: rest) a W :=
  wpList_plain hgd fun K hK => by
    have := step_app_byte (P := P) (ops := ops) (o := o) (a := a) (Q := Q) (K := K) (E := False) T hgd s x ho hT hI W B nb v l y hs hx hown hbx hlen hB (fun v' w' h1 h2 h3 => hK _ _ (h v' w' h1 h2 h3))
    rwa [if_pos (by simp [Region.wanted, hgd])] at this
end
end Go.Proofs.YtkjiancdhaocaaaDoor
