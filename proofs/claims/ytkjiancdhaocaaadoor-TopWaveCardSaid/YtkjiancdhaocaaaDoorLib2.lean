/- Lib2 Lib3 Lib4 -/
import Derived.Test.YtkjiancdhaocaaaDoorLib
/- More plain laws on appends to rows of the call's own: the element lies in a block that is known whole. -/
namespace Go.Proofs.YtkjiancdhaocaaaDoor
set_option linter.unusedVariables false
open Go.RowKit
section
variable {P : Program} {ops : Array Oper} {rest : List Oper} {o : Oper} {a : Act} {Q : Exit → Act → World → Prop}
theorem wp_app_int' (T : TypeId) (hgd : o.guard = none) (s x : Operand) (ho : o.op = .call { callee := .builtin .append, args := #[s, x], argTypes := #[T, T] })
    (hT : P.underlying T = some (.slice 3)) (hI : (P.info? 3).map (fun i => (i.zero, i.size, i.bytes)) = some (some (.int .i64 0), 1, 8))
    (W : World) (B nb : Nat) (v : Value) (l : List Int) (y : Int) (hs : a.eval s = v) (hx : a.eval x = .slice (some ⟨nb, 0, none⟩) 1 1) (hown : OwnI W B 3 v l) (hbx : Box W nb 3 #[.int .i64 y]) (hlen : l.length ≤ 1000000) (hB : B ≤ W.heap.size)
    (h : ∀ v' w', OwnI w' B 3 v' (l ++ [y]) → Below B W w' → Spared v l.length W w' → wpList P ops Q rest (a.put o.dst v') w') :
    wpList P ops Q (o :: rest) a W :=
  wpList_plain hgd fun K hK => by
    have := step_app_int (P := P) (ops := ops) (o := o) (a := a) (Q := Q) (K := K) (E := False) T hgd s x ho hT hI W B nb v l y hs hx hown hbx hlen hB (fun v' w' h1 h2 h3 => hK _ _ (h v' w' h1 h2 h3))
    rwa [if_pos (by simp [Region.wanted, hgd])] at this
theorem wp_app_pair' (T e : TypeId) (hgd : o.guard = none) (s x : Operand) (ho : o.op = .call { callee := .builtin .append, args := #[s, x], argTypes := #[T, T] })
    (hT : P.underlying T = some (.slice e)) (hI : (P.info? e).map (fun i => (i.zero, i.size, i.bytes)) = some (some (.agg #[.int .i64 0, .int .i64 0]), 2, 16))
    (W : World) (B nb : Nat) (v : Value) (l : List (Int × Int)) (y z : Int) (hs : a.eval s = v) (hx : a.eval x = .slice (some ⟨nb, 0, none⟩) 1 1) (hown : OwnP W B e v l) (hbx : Box W nb e #[.int .i64 y, .int .i64 z]) (hlen : l.length ≤ 1000000) (hB : B ≤ W.heap.size)
    (h : ∀ v' w', OwnP w' B e v' (l ++ [(y, z)]) → Below B W w' → Spared v (l.length * 2) W w' → wpList P ops Q rest (a.put o.dst v') w') :
    wpList P ops Q (o :: rest) a W :=
  wpList_plain hgd fun K hK => by
    have := step_app_pair (P := P) (ops := ops) (o := o) (a := a) (Q := Q) (K := K) (E := False) T e hgd s x ho hT hI W B nb v l y z hs hx hown hbx hlen hB (fun v' w' h1 h2 h3 => hK _ _ (h v' w' h1 h2 h3))
    rwa [if_pos (by simp [Region.wanted, hgd])] at this
end
end Go.Proofs.YtkjiancdhaocaaaDoor

/- More plain lemmas: a block of integers that is known whole; 'make([]int, n)'; 'append(a, b...)' of integers. -/
namespace Go.Proofs.YtkjiancdhaocaaaDoor
set_option linter.unusedVariables false
open Go.RowKit

/-- a block of integers that is known whole -/
def BoxI (w : World) (g : Nat) (l : List Int) : Prop := Box w g 3 (l.map (Value.int .i64)).toArray
theorem BoxI.lt {w : World} {g : Nat} {l : List Int} (h : BoxI w g l) : g < w.heap.size := Box.lt h
theorem BoxI.cell {w : World} {g : Nat} {l : List Int} (h : BoxI w g l) {k : Nat} (hk : k < l.length) : w.cell? ⟨g, k, none⟩ = some (.int .i64 (ix l k)) := by
  rw [Box.cell h]; simp [ix, hk]
theorem BoxI.frozen {w : World} {g : Nat} {l : List Int} (h : BoxI w g l) (k : Nat) : w.frozen? ⟨g, k, none⟩ = false := Box.frozen h k
theorem BoxI.on {w w' : World} {g : Nat} {l : List Int} (h : BoxI w g l) (hb : Below w.heap.size w w') : BoxI w' g l := Box.on h hb
theorem BoxI.keep {w w' : World} {B g : Nat} {l : List Int} (h : BoxI w g l) (hb : Below B w w') (hg : g < B) : BoxI w' g l := Box.keep h hb hg
theorem BoxI.alloc {w : World} {g : Nat} {l : List Int} (h : BoxI w g l) (o : Obj) : BoxI (w.alloc o) g l := Box.alloc h o
theorem BoxI.far {w : World} {g : Nat} {l : List Int} (h : BoxI w g l) {p : Addr} (hp : g ≠ p.block) (u : Value) : BoxI (w.setCell p u) g l := Box.far h hp u
theorem BoxI.set_ {w : World} {g : Nat} {l : List Int} (h : BoxI w g l) (k : Nat) (x : Int) : BoxI (w.setCell ⟨g, k, none⟩ (.int .i64 x)) g (l.set k x) := by
  have := Box.set_ h k (.int .i64 x)
  unfold BoxI
  rw [List.map_set]
  simpa using this
theorem BoxI.rd {w : World} {g : Nat} {l : List Int} (h : BoxI w g l) : RdI w w.heap.size (some ⟨g, 0, none⟩) l :=
  .inr ⟨g, 0, rfl, h.lt, fun k hk => by rw [Nat.zero_add]; exact h.cell hk⟩
theorem RdI.le {w : World} {B : Nat} {A : Option Addr} {l : List Int} (h : RdI w B A l) {w' : World} (hb : Below B w w') (hB : B ≤ w'.heap.size) : RdI w' w'.heap.size A l := (h.keep hb).more hB
/-- what 'make([]int, n)' lays -/
theorem BoxI.made (w : World) (n : Nat) (i : TypeInfo) (h : i.size = 1) : BoxI (w.alloc (.cells (madeCells (Value.int .i64 0).cells (n * i.size)) 3)) w.heap.size (List.replicate n 0) := by
  have e : (madeCells (Value.int .i64 0).cells (n * i.size)) = ((List.replicate n (0 : Int)).map (Value.int .i64)).toArray := by
    apply Array.ext'
    rw [h, Nat.mul_one]
    show (madeCells #[.int .i64 0] n).toList = _
    rw [toList_madeCells_one]
    simp
  unfold BoxI
  rw [← e]
  exact Box.new _ _ _
theorem run_make_int {P : Program} {T : TypeId} (hT : P.underlying T = some (.slice 3)) (hI : (P.info? 3).map (fun i => (i.zero, i.size, i.bytes)) = some (some (.int .i64 0), 1, 8)) (n : Int) (h0 : 0 ≤ n) (h1 : n ≤ 1000000) :
    ∃ cs : Array Value, (∀ w : World, (Instr.makeSlice T (.int .i64 n) (.int .i64 n)).run P w = .ok (.slice (some ⟨w.heap.size, 0, none⟩) n.toNat n.toNat) (w.alloc (.cells cs 3))) ∧ ∀ w : World, BoxI (w.alloc (.cells cs 3)) w.heap.size (List.replicate n.toNat 0) := by
  obtain ⟨i0, hi, hz0, hz1, hz2⟩ := info_parts hI
  exact ⟨_, fun w => run_make (P := P) w T 3 i0 (.int .i64 0) hT hi hz0 .i64 .i64 n n h0 (Int.le_refl _) (by rw [hz2]; omega) (by omega), fun w => BoxI.made w n.toNat i0 hz1⟩

theorem OwnI.less {w : World} {B B' : Nat} {e : TypeId} {v : Value} {l : List Int} (h : OwnI w B e v l) (hb : B' ≤ B) : OwnI w B' e v l := by
  have h' : w.ownsRow B e 1 v l.length (l.map (Value.int .i64)) := h
  refine ⟨h'.1, ?_⟩
  rcases h'.2 with h1 | ⟨g, cap, cur, h1, h2, h3⟩
  · exact .inl h1
  · exact .inr ⟨g, cap, cur, h1, by omega, h3⟩
section
variable {P : Program} {ops : Array Oper} {rest : List Oper} {o : Oper} {a : Act} {Q : Exit → Act → World → Prop}
/-- 'append(out, s...)', s not empty, of integers -/
theorem wp_app_ints (T : TypeId) (hgd : o.guard = none) (s x : Operand) (ho : o.op = .call { callee := .builtin .append, args := #[s, x], argTypes := #[T, T] })
    (hT : P.underlying T = some (.slice 3)) (hI : (P.info? 3).map (fun i => (i.zero, i.size, i.bytes)) = some (some (.int .i64 0), 1, 8))
    (W : World) (B : Nat) (v : Value) (l L : List Int) (A : Option Addr) (c : Nat) (hs : a.eval s = v) (hx : a.eval x = .slice A L.length c) (hown : OwnI W B 3 v l) (hr : RdI W W.heap.size A L) (hne : L ≠ []) (hlen : l.length ≤ 1000000) (hlen2 : L.length ≤ 1000000) (hB : B ≤ W.heap.size)
    (h : ∀ v' w', OwnI w' B 3 v' (l ++ L) → Below B W w' → Spared v l.length W w' → wpList P ops Q rest (a.put o.dst v') w') :
    wpList P ops Q (o :: rest) a W := by
  obtain ⟨i0, hi, hz0, hz1, hz2⟩ := info_parts hI
  rcases hr with h0 | ⟨b, off, rfl, hb, hc⟩
  · exact absurd h0 hne
  refine wpList_plain hgd fun K hK => wp_append_kept W s x T ho B 3 i0 (.int .i64 0) 1 8 hT hi hz0 hz1 hz2 rfl (by decide) v l.length _ hs hown ⟨b, off, none⟩ L.length c (L.map (Value.int .i64)) hx (by simp) ?_ (by simp [Value.oneCell']) (by unfold maxLen; omega) (by omega) hB ?_
  · intro j u hu
    rw [Addr.add_lit]
    have hj : j < L.length := by have := (List.getElem?_eq_some_iff.1 hu).1; simpa using this
    rw [hc j hj]
    simpa [ix, hj] using hu
  · intro v' w' h1 h2
    refine hK _ _ (h v' w' ?_ ?_ (by simpa using h2))
    · show w'.ownsRow B 3 1 v' (l ++ L).length ((l ++ L).map (Value.int .i64))
      simpa using h1
    · exact (Below.refl _ _).grown h2.by_ hB (fun k hk => (World.ownsRow.lt hown k hk).1)
end
end Go.Proofs.YtkjiancdhaocaaaDoor

/- More plain laws on appends: where the new row lies, so that two rows may grow side by side. -/
namespace Go.Proofs.YtkjiancdhaocaaaDoor
set_option linter.unusedVariables false
open Go.RowKit

/-- the row's block is the old one's, or a new one -/
def Fresh (v v' : Value) (B : Nat) : Prop := ∀ g, v'.ownBlock = some g → v.ownBlock = some g ∨ B ≤ g
/-- two rows lie in two blocks -/
def Apart2 (v u : Value) : Prop := ∀ g, v.ownBlock = some g → u.ownBlock ≠ some g
theorem Apart2.symm {v u : Value} (h : Apart2 v u) : Apart2 u v := fun g hu hv => h g hv hu
theorem Apart2.nil_left (u : Value) : Apart2 (.slice none 0 0) u := fun g h => by simp [Value.ownBlock] at h
theorem Apart2.fresh {v v' u : Value} {B : Nat} (h : Apart2 v u) (hf : Fresh v v' B) (hu : ∀ g, u.ownBlock = some g → g < B) : Apart2 v' u := by
  intro g hv' hug
  rcases hf g hv' with h1 | h1
  · exact h g h1 hug
  · have := hu g hug; omega

theorem run_append_fresh {P : Program} (w : World) (t ty e : TypeId) (base : Nat) (i : TypeInfo) (z : Value) (size bytes : Nat) (ht : P.underlying t = some (.slice e)) (hi : P.info? e = some i) (hz : i.zero = some z)
    (hsize : i.size = size) (hby : i.bytes = bytes) (hzs : z.cells.size = size) (hsz : 0 < size)
    (v : Value) (n : Nat) (xs : List Value) (hown : w.ownsRow base e size v n xs)
    (a : Addr) (m c : Nat) (news : List Value) (hl : news.length = m * size) (hnews : ∀ j u, news[j]? = some u → w.cell? (a.add j) = some u) (h1 : ∀ u ∈ news, u.oneCell' = true)
    (h63 : n + m ≤ maxLen) (hbytes : (n + m) * bytes ≤ 140737488355328) (hbase : base ≤ w.heap.size) :
    ∃ v' w', (Builtin.append_ #[t, t] ty #[v, .slice (some a) m c]).run P w = .ok v' w' ∧ w'.ownsRow base e size v' (n + m) (xs ++ news) ∧ Spared v (n * size) w w' ∧ Fresh v v' w.heap.size := by
  obtain ⟨v', w', hr, h2, h3⟩ := run_append_kept (P := P) w t ty e base i z size bytes ht hi hz hsize hby hzs hsz v n xs hown a m c news hl hnews h1 h63 hbytes hbase
  refine ⟨v', w', hr, h2, h3, fun g hg => ?_⟩
  rcases hown.2 with ⟨rfl, hn⟩ | ⟨g', cap, cur, rfl, hbg, hgg, hnc, hcm, hcs, htake⟩
  · subst hn
    have hx : xs = [] := by have := hown.1; simpa using this
    subst hx
    obtain ⟨v2, w2, hr2, h4, _, _⟩ := run_append_own (P := P) w w.heap.size t ty e i z size bytes ht hi hz hsize hby hzs hsz (.slice none 0 0) 0 [] (World.ownsRow_nil _ _ _ _) a m c news hl hnews h1 h63 hbytes (Nat.le_refl _)
    rw [hr] at hr2
    injection hr2 with e1 e2
    subst e1; subst e2
    exact .inr (World.ownsRow.lt h4 g hg).1
  · by_cases hroom : n + m ≤ cap
    · have hfit : n * i.size + news.length ≤ cur.size := by rw [hl, hcs, hsize, ← Nat.add_mul]; exact Nat.mul_le_mul_right _ hroom
      have hr' := run_append_room (P := P) w t ty e i ht hi g' n cap cur hgg a m c news (by rw [hl, hsize]) hnews h1 hroom hfit
      rw [hr] at hr'
      injection hr' with hv hw
      rw [hv] at hg
      exact .inl hg
    · have hold := hown.cells (g := g') rfl
      have hr' := run_append_grow (P := P) w t ty e i z ht hi hz ⟨g', 0, none⟩ n cap xs (by rw [hown.1, hsize]) hold a m c news (by rw [hl, hsize]) hnews (by omega) (by simp only [maxLen] at h63; omega) (growslice_fits (by omega) (by rw [hby]; exact hbytes))
      rw [hr] at hr'
      injection hr' with hv hw
      rw [hv] at hg
      have : w.heap.size = g := by simpa [Value.ownBlock] using hg
      exact .inr (by omega)
theorem wp_append_fresh {P : Program} {o : Oper} {a : Act} {K : Act → World → Prop} {Q : Exit → Act → World → Prop} (w : World) (s x : Operand) (t : TypeId)
    (ho : o.op = .call { callee := .builtin .append, args := #[s, x], argTypes := #[t, t] })
    (base : Nat) (e : TypeId) (i : TypeInfo) (z : Value) (size bytes : Nat) (ht : P.underlying t = some (.slice e)) (hi : P.info? e = some i) (hz : i.zero = some z)
    (hsize : i.size = size) (hby : i.bytes = bytes) (hzs : z.cells.size = size) (hsz : 0 < size)
    (v : Value) (n : Nat) (xs : List Value) (hs : a.eval s = v) (hown : w.ownsRow base e size v n xs)
    (ad : Addr) (m c : Nat) (news : List Value) (hx : a.eval x = .slice (some ad) m c) (hl : news.length = m * size) (hnews : ∀ j u, news[j]? = some u → w.cell? (ad.add j) = some u) (h1 : ∀ u ∈ news, u.oneCell' = true)
    (h63 : n + m ≤ maxLen) (hbytes : (n + m) * bytes ≤ 140737488355328) (hbase : base ≤ w.heap.size)
    (h : ∀ v' w', w'.ownsRow base e size v' (n + m) (xs ++ news) → Spared v (n * size) w w' → Fresh v v' w.heap.size → K (a.put o.dst v') w') : o.wp P a w K Q := by
  obtain ⟨v', w', hr, h2, h3, h4⟩ := run_append_fresh (P := P) w t o.type e base i z size bytes ht hi hz hsize hby hzs hsz v n xs hown ad m c news hl hnews h1 h63 hbytes hbase
  unfold Oper.wp execOp
  simp only [ho, resolve, invoke, builtin, Sem.run_bind, Sem.run_pure, Result.andThen_ok, List.map_toArray, List.map_cons, List.map_nil, hs, hx, hr]
  exact h v' w' h2 h3 h4
section
variable {P : Program} {ops : Array Oper} {rest : List Oper} {o : Oper} {a : Act} {Q : Exit → Act → World → Prop}
/-- 'out = append(out, y)' of an integer, and where the row lies -/
theorem wp_app_int2 (T : TypeId) (hgd : o.guard = none) (s x : Operand) (ho : o.op = .call { callee := .builtin .append, args := #[s, x], argTypes := #[T, T] })
    (hT : P.underlying T = some (.slice 3)) (hI : (P.info? 3).map (fun i => (i.zero, i.size, i.bytes)) = some (some (.int .i64 0), 1, 8))
    (W : World) (B : Nat) (v : Value) (l : List Int) (y : Int) (hs : a.eval s = v) (hx : a.eval x = .slice (some ⟨W.heap.size, 0, none⟩) 1 1) (hown : OwnI W B 3 v l) (hlen : l.length ≤ 1000000) (hB : B ≤ W.heap.size)
    (h : ∀ v' w', OwnI w' B 3 v' (l ++ [y]) → Below B W w' → Spared v l.length W w' → Fresh v v' W.heap.size → wpList P ops Q rest (a.put o.dst v') w') :
    wpList P ops Q (o :: rest) a (W.alloc (.cells #[.int .i64 y] 3)) := by
  obtain ⟨i0, hi, hz0, hz1, hz2⟩ := info_parts hI
  refine wpList_plain hgd fun K hK => wp_append_fresh _ s x T ho B 3 i0 (.int .i64 0) 1 8 hT hi hz0 hz1 hz2 rfl (by decide) v l.length _ hs (World.ownsRow.alloc hown _) ⟨W.heap.size, 0, none⟩ 1 1 [.int .i64 y] hx rfl (cell_one_new _ _ _) (by simp [Value.oneCell']) (by unfold maxLen; omega) (by omega) (by simp; omega) ?_
  intro v' w' h1 h2 h3
  have hg : Spared v l.length W w' := by simpa using h2.alloc (fun g hg => (World.ownsRow.lt hown g hg).2)
  refine hK _ _ (h v' w' ?_ ?_ hg ?_)
  · show w'.ownsRow B 3 1 v' (l ++ [y]).length ((l ++ [y]).map (Value.int .i64))
    simpa using h1
  · exact (Below.refl _ _).grown hg.by_ hB (fun k hk => (World.ownsRow.lt hown k hk).1)
  · intro g hg'
    rcases h3 g hg' with e | e
    · exact .inl e
    · exact .inr (by simp at e; omega)
end
/-- another row stays while a row grows -/
theorem OwnI.spared {W w' : World} {B : Nat} {e : TypeId} {v u : Value} {k : Nat} {l : List Int} (h : OwnI W B e u l) (hs : Spared v k W w') (ha : Apart2 v u) : OwnI w' B e u l := by
  have h' : W.ownsRow B e 1 u l.length (l.map (Value.int .i64)) := h
  refine h'.kept hs.by_ ?_
  cases hu : u.ownBlock with
  | none => exact .inl rfl
  | some g => exact .inr (fun e => ha g e.symm hu)
theorem OwnI.block_lt {W : World} {B : Nat} {e : TypeId} {v : Value} {l : List Int} (h : OwnI W B e v l) : ∀ g, v.ownBlock = some g → g < W.heap.size := fun g hg => (World.ownsRow.lt h g hg).2
theorem Spared.size {v : Value} {k : Nat} {W w' : World} (h : Spared v k W w') : W.heap.size ≤ w'.heap.size := h.by_.size
end Go.Proofs.YtkjiancdhaocaaaDoor
