/- More plain laws on appends: where the new row lies, so that two rows may grow side by side. -/
import Derived.Test.YteodljaphkpimaaDoorLib3
namespace Go.Proofs.YteodljaphkpimaaDoor
set_option linter.unusedVariables false
open Go.RowKit

/-- the row's block is the old one's, or a new one -/
def Fresh (v v' : Value) (B : Nat) : Prop := ∀ g, v'.ownBlock = some g → v.ownBlock = some g ∨ B ≤ g
/-- two rows lie in two blocks -/
def Apart2 (v u : Value) : Prop := ∀ g, v.ownBlock = some g → u.ownBlock ≠ some g
theorem Apart2.symm {v u : Value} (h : Apart2 v u) : Apart2 u v := fun g hu hv => h g hv hu
theorem Apart2.nil_left (u : Value) : Apart2 (.slice none 0 0) u := fun g h => by simp [Value.ownBlock] at h
theorem Apart2.fresh {v v' u : Value} {B : Nat} (h : Apart2 v u) (hf : Fresh v v' B) (hu : ∀ g, u.ownBlock = some g → g < B) : Apart2 v' u := by
  intro g hv' hug
  rcases hf g hv' with h1 | h1
  · exact h g h1 hug
  · have := hu g hug; omega

theorem run_append_fresh {P : Program} (w : World) (t ty e : TypeId) (base : Nat) (i : TypeInfo) (z : Value) (size bytes : Nat) (ht : P.underlying t = some (.slice e)) (hi : P.info? e = some i) (hz : i.zero = some z)
    (hsize : i.size = size) (hby : i.bytes = bytes) (hzs : z.cells.size = size) (hsz : 0 < size)
    (v : Value) (n : Nat) (xs : List Value) (hown : w.ownsRow base e size v n xs)
    (a : Addr) (m c : Nat) (news : List Value) (hl : news.length = m * size) (hnews : ∀ j u, news[j]? = some u → w.cell? (a.add j) = some u) (h1 : ∀ u ∈ news, u.oneCell' = true)
    (h63 : n + m ≤ maxLen) (hbytes : (n + m) * bytes ≤ 140737488355328) (hbase : base ≤ w.heap.size) :
    ∃ v' w', (Builtin.append_ #[t, t] ty #[v, .slice (some a) m c]).run P w = .ok v' w' ∧ w'.ownsRow base e size v' (n + m) (xs ++ news) ∧ Spared v (n * size) w w' ∧ Fresh v v' w.heap.size := by
  obtain ⟨v', w', hr, h2, h3⟩ := run_append_kept (P := P) w t ty e base i z size bytes ht hi hz hsize hby hzs hsz v n xs hown a m c news hl hnews h1 h63 hbytes hbase
  refine ⟨v', w', hr, h2, h3, fun g hg => ?_⟩
  rcases hown.2 with ⟨rfl, hn⟩ | ⟨g', cap, cur, rfl, hbg, hgg, hnc, hcm, hcs, htake⟩
  · subst hn
    have hx : xs = [] := by have := hown.1; simpa using this
    subst hx
    obtain ⟨v2, w2, hr2, h4, _, _⟩ := run_append_own (P := P) w w.heap.size t ty e i z size bytes ht hi hz hsize hby hzs hsz (.slice none 0 0) 0 [] (World.ownsRow_nil _ _ _ _) a m c news hl hnews h1 h63 hbytes (Nat.le_refl _)
    rw [hr] at hr2
    injection hr2 with e1 e2
    subst e1; subst e2
    exact .inr (World.ownsRow.lt h4 g hg).1
  · by_cases hroom : n + m ≤ cap
    · have hfit : n * i.size + news.length ≤ cur.size := by rw [hl, hcs, hsize, ← Nat.add_mul]; exact Nat.mul_le_mul_right _ hroom
      have hr' := run_append_room (P := P) w t ty e i ht hi g' n cap cur hgg a m c news (by rw [hl, hsize]) hnews h1 hroom hfit
      rw [hr] at hr'
      injection hr' with hv hw
      rw [hv] at hg
      exact .inl hg
    · have hold := hown.cells (g := g') rfl
      have hr' := run_append_grow (P := P) w t ty e i z ht hi hz ⟨g', 0, none⟩ n cap xs (by rw [hown.1, hsize]) hold a m c news (by rw [hl, hsize]) hnews (by omega) (by simp only [maxLen] at h63; omega) (growslice_fits (by omega) (by rw [hby]; exact hbytes))
      rw [hr] at hr'
      injection hr' with hv hw
      rw [hv] at hg
      have : w.heap.size = g := by simpa [Value.ownBlock] using hg
      exact .inr (by omega)
theorem wp_append_fresh {P : Program} {o : Oper} {a : Act} {K : Act → World → Prop} {Q : Exit → Act → World → Prop} (w : World) (s x : Operand) (t : TypeId)
    (ho : o.op = .call { callee := .builtin .append, args := #[s, x], argTypes := #[t, t] })
    (base : Nat) (e : TypeId) (i : TypeInfo) (z : Value) (size bytes : Nat) (ht : P.underlying t = some (.slice e)) (hi : P.info? e = some i) (hz : i.zero = some z)
    (hsize : i.size = size) (hby : i.bytes = bytes) (hzs : z.cells.size = size) (hsz : 0 < size)
    (v : Value) (n : Nat) (xs : List Value) (hs : a.eval s = v) (hown : w.ownsRow base e size v n xs)
    (ad : Addr) (m c : Nat) (news : List Value) (hx : a.eval x = .slice (some ad) m c) (hl : news.length = m * size) (hnews : ∀ j u, news[j]? = some u → w.cell? (ad.add j) = some u) (h1 : ∀ u ∈ news, u.oneCell' = true)
    (h63 : n + m ≤ maxLen) (hbytes : (n + m) * bytes ≤ 140737488355328) (hbase : base ≤ w.heap.size)
    (h : ∀ v' w', w'.ownsRow base e size v' (n + m) (xs ++ news) → Spared v (n * size) w w' → Fresh v v' w.heap.size → K (a.put o.dst v') w') : o.wp P a w K Q := by
  obtain ⟨v', w', hr, h2, h3, h4⟩ := run_append_fresh (P := P) w t o.type e base i z size bytes ht hi hz hsize hby hzs hsz v n xs hown ad m c news hl hnews h1 h63 hbytes hbase
  unfold Oper.wp execOp
  simp only [ho, resolve, invoke, builtin, Sem.run_bind, Sem.run_pure, Result.andThen_ok, List.map_toArray, List.map_cons, List.map_nil, hs, hx, hr]
  exact h v' w' h2 h3 h4
section
variable {P : Program} {ops : Array Oper} {rest : List Oper} {o : Oper} {a : Act} {Q : Exit → Act → World → Prop}
/-- 'out = append(out, y)' of an integer, and where the row lies -/
theorem wp_app_int2 (T : TypeId) (hgd : o.guard = none) (s x : Operand) (ho : o.op = .call { callee := .builtin .append, args := #[s, x], argTypes := #[T, T] })
    (hT : P.underlying T = some (.slice 3)) (hI : (P.info? 3).map (fun i => (i.zero, i.size, i.bytes)) = some (some (.int .i64 0), 1, 8))
    (W : World) (B : Nat) (v : Value) (l : List Int) (y : Int) (hs : a.eval s = v) (hx : a.eval x = .slice (some ⟨W.heap.size, 0, none⟩) 1 1) (hown : OwnI W B 3 v l) (hlen : l.length ≤ 1000000) (hB : B ≤ W.heap.size)
    (h : ∀ v' w', OwnI w' B 3 v' (l ++ [y]) → Below B W w' → Spared v l.length W w' → Fresh v v' W.heap.size → wpList P ops Q rest (a.put o.dst v') w') :
    wpList P ops Q (o :: rest) a (W.alloc (.cells #[.int .i64 y] 3)) := by
  obtain ⟨i0, hi, hz0, hz1, hz2⟩ := info_parts hI
  refine wpList_plain hgd fun K hK => wp_append_fresh _ s x T ho B 3 i0 (.int .i64 0) 1 8 hT hi hz0 hz1 hz2 rfl (by decide) v l.length _ hs (World.ownsRow.alloc hown _) ⟨W.heap.size, 0, none⟩ 1 1 [.int .i64 y] hx rfl (cell_one_new _ _ _) (by simp [Value.oneCell']) (by unfold maxLen; omega) (by omega) (by simp; omega) ?_
  intro v' w' h1 h2 h3
  have hg : Spared v l.length W w' := by simpa using h2.alloc (fun g hg => (World.ownsRow.lt hown g hg).2)
  refine hK _ _ (h v' w' ?_ ?_ hg ?_)
  · show w'.ownsRow B 3 1 v' (l ++ [y]).length ((l ++ [y]).map (Value.int .i64))
    simpa using h1
  · exact (Below.refl _ _).grown hg.by_ hB (fun k hk => (World.ownsRow.lt hown k hk).1)
  · intro g hg'
    rcases h3 g hg' with e | e
    · exact .inl e
    · exact .inr (by simp at e; omega)
end
/-- another row stays while a row grows -/
theorem OwnI.spared {W w' : World} {B : Nat} {e : TypeId} {v u : Value} {k : Nat} {l : List Int} (h : OwnI W B e u l) (hs : Spared v k W w') (ha : Apart2 v u) : OwnI w' B e u l := by
  have h' : W.ownsRow B e 1 u l.length (l.map (Value.int .i64)) := h
  refine h'.kept hs.by_ ?_
  cases hu : u.ownBlock with
  | none => exact .inl rfl
  | some g => exact .inr (fun e => ha g e.symm hu)
theorem OwnI.block_lt {W : World} {B : Nat} {e : TypeId} {v : Value} {l : List Int} (h : OwnI W B e v l) : ∀ g, v.ownBlock = some g → g < W.heap.size := fun g hg => (World.ownsRow.lt h g hg).2
theorem Spared.size {v : Value} {k : Nat} {W w' : World} (h : Spared v k W w') : W.heap.size ≤ w'.heap.size := h.by_.size
end Go.Proofs.YteodljaphkpimaaDoor
