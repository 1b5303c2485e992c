/- Plain lemmas on slices of triples of integers: how they read in memory, rows of the call's own, appends. -/
import Derived.Test.YtdafiblnanpiiaaLib4
namespace Go.Proofs.Ytdafiblnanpiiaa
set_option linter.unusedVariables false
open Go.RowKit

/-! ### slices of triples of integers -/
def ta (L : List (Int × Int × Int)) (k : Nat) : Int := (L.getD k (0, 0, 0)).1
def tb (L : List (Int × Int × Int)) (k : Nat) : Int := (L.getD k (0, 0, 0)).2.1
def tc (L : List (Int × Int × Int)) (k : Nat) : Int := (L.getD k (0, 0, 0)).2.2
def RdT (w : World) (B : Nat) (A : Option Addr) (L : List (Int × Int × Int)) : Prop :=
  L = [] ∨ ∃ b o, A = some ⟨b, o, none⟩ ∧ b < B ∧ ∀ k, k < L.length → w.cell? ⟨b, o + k * 3, none⟩ = some (.int .i64 (ta L k)) ∧ w.cell? ⟨b, o + k * 3 + 1, none⟩ = some (.int .i64 (tb L k)) ∧ w.cell? ⟨b, o + k * 3 + 2, none⟩ = some (.int .i64 (tc L k))
theorem RdT.keep {w w' : World} {B : Nat} {A : Option Addr} {l : List (Int × Int × Int)} (h : RdT w B A l) (hb : Below B w w') : RdT w' B A l := by
  rcases h with h | ⟨b, o, h1, h2, h3⟩
  · exact .inl h
  · exact .inr ⟨b, o, h1, h2, fun k hk => ⟨(hb.cell (p := ⟨b, o + k * 3, none⟩) h2).trans (h3 k hk).1, (hb.cell (p := ⟨b, o + k * 3 + 1, none⟩) h2).trans (h3 k hk).2.1, (hb.cell (p := ⟨b, o + k * 3 + 2, none⟩) h2).trans (h3 k hk).2.2⟩⟩
theorem RdT.more {w : World} {B B' : Nat} {A : Option Addr} {l : List (Int × Int × Int)} (h : RdT w B A l) (hb : B ≤ B') : RdT w B' A l := by
  rcases h with h | ⟨b, o, h1, h2, h3⟩
  · exact .inl h
  · exact .inr ⟨b, o, h1, by omega, h3⟩
theorem RdT.on {w w' : World} {A : Option Addr} {l : List (Int × Int × Int)} (h : RdT w w.heap.size A l) (hb : Below w.heap.size w w') : RdT w' w'.heap.size A l := (h.keep hb).more hb.size
theorem RdT.at_ {w : World} {B : Nat} {A : Option Addr} {l : List (Int × Int × Int)} (h : RdT w B A l) {k : Nat} (hk : k < l.length) :
    ∃ b o, A = some ⟨b, o, none⟩ ∧ b < B ∧ w.cell? ⟨b, o + k * 3, none⟩ = some (.int .i64 (ta l k)) ∧ w.cell? ⟨b, o + k * 3 + 1, none⟩ = some (.int .i64 (tb l k)) ∧ w.cell? ⟨b, o + k * 3 + 2, none⟩ = some (.int .i64 (tc l k)) := by
  rcases h with rfl | ⟨b, o, h1, h2, h3⟩
  · simp at hk
  · exact ⟨b, o, h1, h2, h3 k hk⟩
theorem RdT.form {w : World} {B : Nat} {A : Option Addr} {l : List (Int × Int × Int)} (h : RdT w B A l) (hne : 0 < l.length) :
    ∃ b o, A = some ⟨b, o, none⟩ ∧ b < B ∧ ∀ k, k < l.length → w.cell? ⟨b, o + k * 3, none⟩ = some (.int .i64 (ta l k)) ∧ w.cell? ⟨b, o + k * 3 + 1, none⟩ = some (.int .i64 (tb l k)) ∧ w.cell? ⟨b, o + k * 3 + 2, none⟩ = some (.int .i64 (tc l k)) := by
  rcases h with rfl | h
  · simp at hne
  · exact h

/-! ### rows of triples of the call's own -/
def cells3 (l : List (Int × Int × Int)) : List Value := l.flatMap fun p => [.int .i64 p.1, .int .i64 p.2.1, .int .i64 p.2.2]
theorem cells3_length (l : List (Int × Int × Int)) : (cells3 l).length = l.length * 3 := by
  induction l with
  | nil => rfl
  | cons x l ih => rw [show cells3 (x :: l) = [.int .i64 x.1, .int .i64 x.2.1, .int .i64 x.2.2] ++ cells3 l from rfl, List.length_append, ih]; simp; omega
theorem cells3_get (l : List (Int × Int × Int)) (k : Nat) (hk : k < l.length) : (cells3 l)[k * 3]? = some (.int .i64 (ta l k)) ∧ (cells3 l)[k * 3 + 1]? = some (.int .i64 (tb l k)) ∧ (cells3 l)[k * 3 + 2]? = some (.int .i64 (tc l k)) := by
  induction l generalizing k with
  | nil => simp at hk
  | cons x l ih =>
    rw [show cells3 (x :: l) = .int .i64 x.1 :: .int .i64 x.2.1 :: .int .i64 x.2.2 :: cells3 l from rfl]
    cases k with
    | zero => simp [ta, tb, tc]
    | succ k =>
      have := ih k (by simpa using hk)
      rw [show (k + 1) * 3 = k * 3 + 1 + 1 + 1 by omega]
      simpa [ta, tb, tc] using this
theorem cells3_append (a b : List (Int × Int × Int)) : cells3 (a ++ b) = cells3 a ++ cells3 b := by simp [cells3]
theorem cells3_one (l : List (Int × Int × Int)) : ∀ u ∈ cells3 l, u.oneCell' = true := by
  intro u hu
  simp only [cells3, List.mem_flatMap] at hu
  obtain ⟨p, _, hu⟩ := hu
  simp at hu
  rcases hu with rfl | rfl | rfl <;> rfl
def OwnT (w : World) (B : Nat) (e : TypeId) (v : Value) (l : List (Int × Int × Int)) : Prop := w.ownsRow B e 3 v l.length (cells3 l)
theorem OwnT.nil (w : World) (B : Nat) (e : TypeId) : OwnT w B e (.slice none 0 0) [] := World.ownsRow_nil _ _ _ _
theorem OwnT.form {w : World} {B : Nat} {e : TypeId} {v : Value} {l : List (Int × Int × Int)} (h : OwnT w B e v l) :
    (v = .slice none 0 0 ∧ l = []) ∨ ∃ g c, v = .slice (some ⟨g, 0, none⟩) l.length c ∧ B ≤ g ∧ g < w.heap.size ∧ l.length ≤ c ∧ c ≤ maxLen ∧ (∀ k, k < l.length → w.cell? ⟨g, k * 3, none⟩ = some (.int .i64 (ta l k)) ∧ w.cell? ⟨g, k * 3 + 1, none⟩ = some (.int .i64 (tb l k)) ∧ w.cell? ⟨g, k * 3 + 2, none⟩ = some (.int .i64 (tc l k))) ∧ ∀ k, w.frozen? ⟨g, k, none⟩ = false := by
  have h' : w.ownsRow B e 3 v l.length (cells3 l) := h
  rcases h'.2 with ⟨h1, h2⟩ | ⟨g, cap, cur, rfl, hb, hg, hc, hm, hs, ht⟩
  · exact .inl ⟨h1, List.eq_nil_of_length_eq_zero h2⟩
  · refine .inr ⟨g, cap, rfl, hb, (Array.getElem?_eq_some_iff.1 hg).1, hc, hm, fun k hk => ?_, fun k => h'.frozenAt k⟩
    rw [h'.cellAt (k * 3) (by omega), h'.cellAt (k * 3 + 1) (by omega), h'.cellAt (k * 3 + 2) (by omega)]
    exact cells3_get l k hk
theorem OwnT.rd {w : World} {B : Nat} {e : TypeId} {v : Value} {l : List (Int × Int × Int)} (h : OwnT w B e v l) : ∃ A c, v = .slice A l.length c ∧ RdT w w.heap.size A l := by
  rcases h.form with ⟨rfl, rfl⟩ | ⟨g, c, rfl, _, hg, _, _, hc, _⟩
  · exact ⟨none, 0, rfl, .inl rfl⟩
  · exact ⟨_, c, rfl, .inr ⟨g, 0, rfl, hg, fun k hk => by rw [Nat.zero_add]; exact hc k hk⟩⟩
theorem OwnT.kept {w w' : World} {B : Nat} {e : TypeId} {v : Value} {l : List (Int × Int × Int)} (h : OwnT w B e v l) (hb : Below w.heap.size w w') : OwnT w' B e v l := by
  have h' : w.ownsRow B e 3 v l.length (cells3 l) := h
  exact h'.kept (row := none) ⟨hb.os, hb.tape, hb.output, hb.size, fun k hk _ => hb.block k hk⟩ (by cases v.ownBlock <;> simp)
theorem OwnT.less {w : World} {B B' : Nat} {e : TypeId} {v : Value} {l : List (Int × Int × Int)} (h : OwnT w B e v l) (hb : B' ≤ B) : OwnT w B' e v l := by
  have h' : w.ownsRow B e 3 v l.length (cells3 l) := h
  refine ⟨h'.1, ?_⟩
  rcases h'.2 with h1 | ⟨g, cap, cur, h1, h2, h3⟩
  · exact .inl h1
  · exact .inr ⟨g, cap, cur, h1, by omega, h3⟩
theorem OwnT.spared {W w' : World} {B : Nat} {e : TypeId} {v u : Value} {k : Nat} {l : List (Int × Int × Int)} (h : OwnT W B e u l) (hs : Spared v k W w') (ha : Apart2 v u) : OwnT w' B e u l := by
  have h' : W.ownsRow B e 3 u l.length (cells3 l) := h
  refine h'.kept hs.by_ ?_
  cases hu : u.ownBlock with
  | none => exact .inl rfl
  | some g => exact .inr (fun e => ha g e.symm hu)
theorem OwnT.block_lt {W : World} {B : Nat} {e : TypeId} {v : Value} {l : List (Int × Int × Int)} (h : OwnT W B e v l) : ∀ g, v.ownBlock = some g → B ≤ g ∧ g < W.heap.size := fun g hg => World.ownsRow.lt h g hg
/-- rows of different element types lie apart -/
theorem own_ne_own {w : World} {b1 b2 : Nat} {e1 e2 : TypeId} {s1 s2 n1 n2 : Nat} {v1 v2 : Value} {x1 x2 : List Value} (h1 : w.ownsRow b1 e1 s1 v1 n1 x1) (h2 : w.ownsRow b2 e2 s2 v2 n2 x2) (hne : e1 ≠ e2) : Apart2 v1 v2 := by
  intro g hg hg2
  rcases h1.2 with ⟨rfl, _⟩ | ⟨g1, cap1, cur1, rfl, _, hh1, _⟩
  · simp [Value.ownBlock] at hg
  · rcases h2.2 with ⟨rfl, _⟩ | ⟨g2, cap2, cur2, rfl, _, hh2, _⟩
    · simp [Value.ownBlock] at hg2
    · have e1 : g1 = g := by simpa [Value.ownBlock] using hg
      have e2 : g2 = g := by simpa [Value.ownBlock] using hg2
      subst e1; subst e2
      rw [hh1] at hh2
      injection hh2 with hh
      injection hh with _ ht
      exact hne ht

section
variable {P : Program} {ops : Array Oper} {rest : List Oper} {o : Oper} {a : Act} {Q : Exit → Act → World → Prop} {K : Act → World → Prop} {E : Prop}
/-- 'append(out, x)' of a triple, at the operation. -/
theorem op_app_trip (T e : TypeId) (s x : Operand) (ho : o.op = .call { callee := .builtin .append, args := #[s, x], argTypes := #[T, T] })
    (hT : P.underlying T = some (.slice e)) (hI : (P.info? e).map (fun i => (i.zero, i.size, i.bytes)) = some (some (.agg #[.int .i64 0, .int .i64 0, .int .i64 0]), 3, 24))
    (W : World) (B nb : Nat) (v : Value) (l : List (Int × Int × Int)) (y z u : Int) (hs : a.eval s = v) (hx : a.eval x = .slice (some ⟨nb, 0, none⟩) 1 1) (hown : OwnT W B e v l) (hbx : Box W nb e #[.int .i64 y, .int .i64 z, .int .i64 u]) (hlen : l.length ≤ 1000000) (hB : B ≤ W.heap.size)
    (h : ∀ v' w', OwnT w' B e v' (l ++ [(y, z, u)]) → Below B W w' → Spared v (l.length * 3) W w' → Fresh v v' W.heap.size → K (a.put o.dst v') w') : Oper.wp P o a W K Q := by
  obtain ⟨i0, hi, hz0, hz1, hz2⟩ := info_parts hI
  refine wp_append_fresh W s x T ho B e i0 (.agg #[.int .i64 0, .int .i64 0, .int .i64 0]) 3 24 hT hi hz0 hz1 hz2 rfl (by decide) v l.length _ hs hown ⟨nb, 0, none⟩ 1 1 [.int .i64 y, .int .i64 z, .int .i64 u] hx rfl (World.news_of_block hbx) (by simp [Value.oneCell']) (by unfold maxLen; omega) (by omega) hB ?_
  intro v' w' h1 h2 h3
  refine h v' w' ?_ ?_ h2 h3
  · show w'.ownsRow B e 3 v' (l ++ [(y, z, u)]).length (cells3 (l ++ [(y, z, u)]))
    simpa [cells3] using h1
  · exact (Below.refl _ _).grown h2.by_ hB (fun k hk => (World.ownsRow.lt hown k hk).1)
theorem step_app_trip (T e : TypeId) (hgd : o.guard = none) (s x : Operand) (ho : o.op = .call { callee := .builtin .append, args := #[s, x], argTypes := #[T, T] })
    (hT : P.underlying T = some (.slice e)) (hI : (P.info? e).map (fun i => (i.zero, i.size, i.bytes)) = some (some (.agg #[.int .i64 0, .int .i64 0, .int .i64 0]), 3, 24))
    (W : World) (B nb : Nat) (v : Value) (l : List (Int × Int × Int)) (y z u : Int) (hs : a.eval s = v) (hx : a.eval x = .slice (some ⟨nb, 0, none⟩) 1 1) (hown : OwnT W B e v l) (hbx : Box W nb e #[.int .i64 y, .int .i64 z, .int .i64 u]) (hlen : l.length ≤ 1000000) (hB : B ≤ W.heap.size)
    (h : ∀ v' w', OwnT w' B e v' (l ++ [(y, z, u)]) → Below B W w' → Spared v (l.length * 3) W w' → Fresh v v' W.heap.size → K (a.put o.dst v') w') :
    if Region.wanted o (yielded ops a.tmps) = true then Oper.wp P o a W K Q else E := by
  have hw : Region.wanted o (yielded ops a.tmps) = true := by simp [Region.wanted, hgd]
  rw [if_pos hw]
  exact op_app_trip T e s x ho hT hI W B nb v l y z u hs hx hown hbx hlen hB h
theorem wp_app_trip (T e : TypeId) (hgd : o.guard = none) (s x : Operand) (ho : o.op = .call { callee := .builtin .append, args := #[s, x], argTypes := #[T, T] })
    (hT : P.underlying T = some (.slice e)) (hI : (P.info? e).map (fun i => (i.zero, i.size, i.bytes)) = some (some (.agg #[.int .i64 0, .int .i64 0, .int .i64 0]), 3, 24))
    (W : World) (B nb : Nat) (v : Value) (l : List (Int × Int × Int)) (y z u : Int) (hs : a.eval s = v) (hx : a.eval x = .slice (some ⟨nb, 0, none⟩) 1 1) (hown : OwnT W B e v l) (hbx : Box W nb e #[.int .i64 y, .int .i64 z, .int .i64 u]) (hlen : l.length ≤ 1000000) (hB : B ≤ W.heap.size)
    (h : ∀ v' w', OwnT w' B e v' (l ++ [(y, z, u)]) → Below B W w' → Spared v (l.length * 3) W w' → Fresh v v' W.heap.size → wpList P ops Q rest (a.put o.dst v') w') :
    wpList P ops Q (o :: rest) a W :=
  wpList_plain hgd fun K hK => op_app_trip T e s x ho hT hI W B nb v l y z u hs hx hown hbx hlen hB (fun v' w' h1 h2 h3 h4 => hK _ _ (h v' w' h1 h2 h3 h4))
/-- 'append(out, s...)', s not empty, of triples -/
theorem op_app_trips (T e : TypeId) (s x : Operand) (ho : o.op = .call { callee := .builtin .append, args := #[s, x], argTypes := #[T, T] })
    (hT : P.underlying T = some (.slice e)) (hI : (P.info? e).map (fun i => (i.zero, i.size, i.bytes)) = some (some (.agg #[.int .i64 0, .int .i64 0, .int .i64 0]), 3, 24))
    (W : World) (B : Nat) (v : Value) (l L : List (Int × Int × Int)) (A : Option Addr) (c : Nat) (hs : a.eval s = v) (hx : a.eval x = .slice A L.length c) (hown : OwnT W B e v l) (hr : RdT W W.heap.size A L) (hne : L ≠ []) (hlen : l.length ≤ 1000000) (hlen2 : L.length ≤ 1000000) (hB : B ≤ W.heap.size)
    (h : ∀ v' w', OwnT w' B e v' (l ++ L) → Below B W w' → Spared v (l.length * 3) W w' → Fresh v v' W.heap.size → K (a.put o.dst v') w') : Oper.wp P o a W K Q := by
  obtain ⟨i0, hi, hz0, hz1, hz2⟩ := info_parts hI
  rcases hr with h0 | ⟨b, off, rfl, hb, hc⟩
  · exact absurd h0 hne
  refine wp_append_fresh W s x T ho B e i0 (.agg #[.int .i64 0, .int .i64 0, .int .i64 0]) 3 24 hT hi hz0 hz1 hz2 rfl (by decide) v l.length _ hs hown ⟨b, off, none⟩ L.length c (cells3 L) hx (cells3_length L) ?_ (cells3_one L) (by unfold maxLen; omega) (by omega) hB ?_
  · intro j u hu
    rw [Addr.add_lit]
    have hj : j < L.length * 3 := by rw [← cells3_length]; exact (List.getElem?_eq_some_iff.1 hu).1
    obtain ⟨k, hk⟩ : ∃ k, j = k * 3 ∨ j = k * 3 + 1 ∨ j = k * 3 + 2 := ⟨j / 3, by omega⟩
    have hkl : k < L.length := by omega
    have hg := cells3_get L k hkl
    rcases hk with rfl | rfl | rfl
    · rw [hg.1] at hu; rw [(hc k hkl).1]; exact hu
    · rw [hg.2.1] at hu; rw [← Nat.add_assoc, (hc k hkl).2.1]; exact hu
    · rw [hg.2.2] at hu; rw [← Nat.add_assoc, (hc k hkl).2.2]; exact hu
  · intro v' w' h1 h2 h3
    refine h v' w' ?_ ?_ h2 h3
    · show w'.ownsRow B e 3 v' (l ++ L).length (cells3 (l ++ L))
      rw [List.length_append, cells3_append]
      exact h1
    · exact (Below.refl _ _).grown h2.by_ hB (fun k hk => (World.ownsRow.lt hown k hk).1)
theorem wp_app_trips (T e : TypeId) (hgd : o.guard = none) (s x : Operand) (ho : o.op = .call { callee := .builtin .append, args := #[s, x], argTypes := #[T, T] })
    (hT : P.underlying T = some (.slice e)) (hI : (P.info? e).map (fun i => (i.zero, i.size, i.bytes)) = some (some (.agg #[.int .i64 0, .int .i64 0, .int .i64 0]), 3, 24))
    (W : World) (B : Nat) (v : Value) (l L : List (Int × Int × Int)) (A : Option Addr) (c : Nat) (hs : a.eval s = v) (hx : a.eval x = .slice A L.length c) (hown : OwnT W B e v l) (hr : RdT W W.heap.size A L) (hne : L ≠ []) (hlen : l.length ≤ 1000000) (hlen2 : L.length ≤ 1000000) (hB : B ≤ W.heap.size)
    (h : ∀ v' w', OwnT w' B e v' (l ++ L) → Below B W w' → Spared v (l.length * 3) W w' → Fresh v v' W.heap.size → wpList P ops Q rest (a.put o.dst v') w') :
    wpList P ops Q (o :: rest) a W :=
  wpList_plain hgd fun K hK => op_app_trips T e s x ho hT hI W B v l L A c hs hx hown hr hne hlen hlen2 hB (fun v' w' h1 h2 h3 h4 => hK _ _ (h v' w' h1 h2 h3 h4))
end

theorem OwnT.setT {w : World} {B : Nat} {e : TypeId} {g n c : Nat} {l : List (Int × Int × Int)} (h : OwnT w B e (.slice (some ⟨g, 0, none⟩) n c) l) (k j : Nat) (x : Int) (hk : k < l.length) (hj : j < 3) :
    OwnT (w.setCell ⟨g, k * 3 + j, none⟩ (.int .i64 x)) B e (.slice (some ⟨g, 0, none⟩) n c) (l.set k (if j = 0 then x else ta l k, if j = 1 then x else tb l k, if j = 2 then x else tc l k)) := by
  have hn : n = l.length := by
    rcases h.form with ⟨h0, _⟩ | ⟨_, _, he, _⟩
    · cases h0
    · injection he
  subst hn
  have h' : w.ownsRow B e 3 (.slice (some ⟨g, 0, none⟩) l.length c) l.length (cells3 l) := h
  show World.ownsRow _ B e 3 _ _ _
  have h2 := (h'.stored (k * 3 + j) (.int .i64 x)).1
  rw [List.length_set]
  have e1 : (cells3 l).set (k * 3 + j) (.int .i64 x) = cells3 (l.set k (if j = 0 then x else ta l k, if j = 1 then x else tb l k, if j = 2 then x else tc l k)) := by
    clear h h' h2
    induction l generalizing k with
    | nil => simp at hk
    | cons y l ih =>
      cases k with
      | zero =>
        rw [show cells3 (y :: l) = .int .i64 y.1 :: .int .i64 y.2.1 :: .int .i64 y.2.2 :: cells3 l from rfl, Nat.zero_mul, Nat.zero_add, List.set_cons_zero]
        match j, hj with
        | 0, _ => rfl
        | 1, _ => rfl
        | 2, _ => rfl
      | succ k =>
        rw [show cells3 (y :: l) = .int .i64 y.1 :: .int .i64 y.2.1 :: .int .i64 y.2.2 :: cells3 l from rfl, show (k + 1) * 3 + j = k * 3 + j + 1 + 1 + 1 by omega, List.set_cons_succ, List.set_cons_succ, List.set_cons_succ, List.set_cons_succ]
        rw [ih k (by simpa using hk)]
        rfl
  rw [← e1]
  exact h2
end Go.Proofs.Ytdafiblnanpiiaa
