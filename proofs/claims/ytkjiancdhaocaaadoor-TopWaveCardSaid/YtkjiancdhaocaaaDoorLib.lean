/- Plain definitions and lemmas that all walks of this claim use: how slices read in memory, rows of the call's own, small closing lemmas. -/
import Derived.WalkKit
import Derived.Lib.Hide
import Derived.Laws.OwnMore
import Derived.Deep.AppendLies
import Derived.Deep.Draws
import Derived.Maps.AppendAt
import Derived.OwnWalk
import Derived.Shelf.Abstract
import Derived.Deep.LoopGhost
import Derived.Deep.QuietTactic
import Derived.BigQuiet
import Derived.Outline
import Derived.Deep.RegionHeld3
import Derived.WalkLawsBesides
import Derived.WalkSpells
namespace Go.Proofs.YtkjiancdhaocaaaDoor
set_option linter.unusedVariables false
open Go.RowKit

/-! ### closing lemmas -/
theorem ret_int {k : IntKind} {a b : Int} (h : a = b) : Ending.returned (.int k a) = .returned (.int k b) := by rw [h]
theorem ret_bool {a b : Bool} (h : a = b) : Ending.returned (.bool a) = .returned (.bool b) := by rw [h]
theorem ret_ii {a b c d : Int} (h : a = b) (h' : c = d) : Ending.returned (.tuple #[.int .i64 a, .int .i64 c]) = .returned (.tuple #[.int .i64 b, .int .i64 d]) := by rw [h, h']
theorem ret_iii {a b c d e f : Int} (h : a = b) (h' : c = d) (h'' : e = f) : Ending.returned (.tuple #[.int .i64 a, .int .i64 c, .int .i64 e]) = .returned (.tuple #[.int .i64 b, .int .i64 d, .int .i64 f]) := by rw [h, h', h'']
theorem ret_bi {a b : Bool} {c d : Int} (h : a = b) (h' : c = d) : Ending.returned (.tuple #[.bool a, .int .i64 c]) = .returned (.tuple #[.bool b, .int .i64 d]) := by rw [h, h']

/-! ### worlds -/
theorem bcell {W w1 : World} {B : Nat} (hb : Below B W w1) : (∀ b o, b < B → w1.cell? ⟨b, o, none⟩ = W.cell? ⟨b, o, none⟩) ∧ (∀ b o, b < B → w1.frozen? ⟨b, o, none⟩ = W.frozen? ⟨b, o, none⟩) :=
  ⟨fun b o h => hb.cell (p := ⟨b, o, none⟩) h, fun b o h => hb.frozen (p := ⟨b, o, none⟩) h⟩
theorem _root_.Go.RowKit.Below.trs {a b c : World} (h : Below a.heap.size a b) (k : Below b.heap.size b c) : Below a.heap.size a c := h.trans (k.mono h.size)
theorem _root_.Go.RowKit.Below.drewsN {B : Nat} {a w : World} (h : Below B a w) (n : Nat) : Below B a (w.drewN n) := ⟨h.os, h.tape, h.output, h.size, h.block⟩
theorem below_alloc (w : World) (o : Obj) : Below w.heap.size w (w.alloc o) := (Below.refl _ _).alloc (Nat.le_refl _) o
theorem cell_one (w : World) (v : Value) (t : TypeId) : (w.alloc (.cells #[v] t)).cell? ⟨w.heap.size, 0, none⟩ = some v := by
  have h : (w.alloc (.cells #[v] t)).heap[w.heap.size]? = some (.cells #[v] t (0, 0)) := heap_alloc_new w _
  rw [cell_of_row _ _ _ _ _ _ h]; rfl

/-! ### a range that is asked -/
def btw (a n b : Int) : Bool := decide (a ≤ n) && decide (n ≤ b)
theorem btw_iff {a n b : Int} : btw a n b = true ↔ a ≤ n ∧ n ≤ b := by simp [btw]
theorem btw_no {a n b : Int} : btw a n b = false ↔ n < a ∨ b < n := by simp [btw]; omega

/-! ### the first place at which a predicate holds -/
def idxF (p : Nat → Bool) (n : Nat) : Int := if ∃ k, k < n ∧ p k = true then ((List.range n).findIdx p : Nat) else -1
def anyF (p : Nat → Bool) (n : Nat) : Bool := decide (0 ≤ idxF p n)
theorem idxF_hit {p : Nat → Bool} {n i : Nat} (hi : i < n) (h : p i = true) (h0 : ∀ t, t < i → p t = false) : idxF p n = i := by
  unfold idxF
  rw [if_pos ⟨i, hi, h⟩]
  congr 1
  rw [List.findIdx_eq (by simpa using hi)]
  exact ⟨by simpa using h, fun j hj => by simpa using h0 j hj⟩
theorem idxF_miss {p : Nat → Bool} {n : Nat} (h0 : ∀ t, t < n → p t = false) : idxF p n = -1 := by
  unfold idxF
  rw [if_neg (by rintro ⟨k, h1, h2⟩; rw [h0 k h1] at h2; cases h2)]
theorem least_true {p : Nat → Bool} {n : Nat} (h : ∃ k, k < n ∧ p k = true) : ∃ i, i < n ∧ p i = true ∧ ∀ t, t < i → p t = false := by
  induction n with
  | zero => obtain ⟨k, hk, _⟩ := h; omega
  | succ n ih =>
    by_cases h' : ∃ k, k < n ∧ p k = true
    · obtain ⟨i, h1, h2, h3⟩ := ih h'; exact ⟨i, by omega, h2, h3⟩
    · obtain ⟨k, hk, hp⟩ := h
      have : k = n := by
        rcases Nat.lt_or_ge k n with hlt | hge
        · exact absurd ⟨k, hlt, hp⟩ h'
        · omega
      subst this
      refine ⟨k, hk, hp, fun t ht => ?_⟩
      cases hpt : p t
      · rfl
      · exact absurd ⟨t, ht, hpt⟩ h'
theorem idxF_cases (p : Nat → Bool) (n : Nat) : (∃ i : Nat, i < n ∧ p i = true ∧ (∀ t, t < i → p t = false) ∧ idxF p n = i) ∨ ((∀ t, t < n → p t = false) ∧ idxF p n = -1) := by
  by_cases h : ∃ k, k < n ∧ p k = true
  · obtain ⟨i, h1, h2, h3⟩ := least_true h
    exact .inl ⟨i, h1, h2, h3, idxF_hit h1 h2 h3⟩
  · have h0 : ∀ t, t < n → p t = false := fun t ht => by
      cases hp : p t
      · rfl
      · exact absurd ⟨t, ht, hp⟩ h
    exact .inr ⟨h0, idxF_miss h0⟩
theorem anyF_iff {p : Nat → Bool} {n : Nat} : anyF p n = true ↔ ∃ k, k < n ∧ p k = true := by
  unfold anyF
  rcases idxF_cases p n with ⟨i, h1, h2, _, h4⟩ | ⟨h0, h4⟩
  · rw [h4]; exact ⟨fun _ => ⟨i, h1, h2⟩, fun _ => by simp⟩
  · rw [h4]
    refine ⟨fun h => by simp at h, ?_⟩
    rintro ⟨k, h1, h2⟩; rw [h0 k h1] at h2; cases h2
theorem anyF_no {p : Nat → Bool} {n : Nat} : anyF p n = false ↔ ∀ k, k < n → p k = false := by
  constructor
  · intro h k hk
    cases hp : p k
    · rfl
    · rw [anyF_iff.2 ⟨k, hk, hp⟩] at h; cases h
  · intro h
    cases ha : anyF p n
    · rfl
    · obtain ⟨k, h1, h2⟩ := anyF_iff.1 ha; rw [h k h1] at h2; cases h2

/-! ### slices of integers -/
def ix (l : List Int) (k : Nat) : Int := l.getD k 0
def RdI (w : World) (B : Nat) (A : Option Addr) (l : List Int) : Prop :=
  l = [] ∨ ∃ b o, A = some ⟨b, o, none⟩ ∧ b < B ∧ ∀ k, k < l.length → w.cell? ⟨b, o + k, none⟩ = some (.int .i64 (ix l k))
theorem RdI.keep {w w' : World} {B : Nat} {A : Option Addr} {l : List Int} (h : RdI w B A l) (hb : Below B w w') : RdI w' B A l := by
  rcases h with h | ⟨b, o, h1, h2, h3⟩
  · exact .inl h
  · exact .inr ⟨b, o, h1, h2, fun k hk => (hb.cell (p := ⟨b, o + k, none⟩) h2).trans (h3 k hk)⟩
theorem RdI.more {w : World} {B B' : Nat} {A : Option Addr} {l : List Int} (h : RdI w B A l) (hb : B ≤ B') : RdI w B' A l := by
  rcases h with h | ⟨b, o, h1, h2, h3⟩
  · exact .inl h
  · exact .inr ⟨b, o, h1, by omega, h3⟩
theorem RdI.on {w w' : World} {A : Option Addr} {l : List Int} (h : RdI w w.heap.size A l) (hb : Below w.heap.size w w') : RdI w' w'.heap.size A l := (h.keep hb).more hb.size
theorem RdI.at_ {w : World} {B : Nat} {A : Option Addr} {l : List Int} (h : RdI w B A l) {k : Nat} (hk : k < l.length) :
    ∃ b o, A = some ⟨b, o, none⟩ ∧ b < B ∧ w.cell? ⟨b, o + k, none⟩ = some (.int .i64 (ix l k)) := by
  rcases h with rfl | ⟨b, o, h1, h2, h3⟩
  · simp at hk
  · exact ⟨b, o, h1, h2, h3 k hk⟩

/-! ### slices of pairs of integers -/
def pa (L : List (Int × Int)) (k : Nat) : Int := (L.getD k (0, 0)).1
def pb (L : List (Int × Int)) (k : Nat) : Int := (L.getD k (0, 0)).2
def RdP (w : World) (B : Nat) (A : Option Addr) (L : List (Int × Int)) : Prop :=
  L = [] ∨ ∃ b o, A = some ⟨b, o, none⟩ ∧ b < B ∧ ∀ k, k < L.length → w.cell? ⟨b, o + k * 2, none⟩ = some (.int .i64 (pa L k)) ∧ w.cell? ⟨b, o + k * 2 + 1, none⟩ = some (.int .i64 (pb L k))
theorem RdP.keep {w w' : World} {B : Nat} {A : Option Addr} {l : List (Int × Int)} (h : RdP w B A l) (hb : Below B w w') : RdP w' B A l := by
  rcases h with h | ⟨b, o, h1, h2, h3⟩
  · exact .inl h
  · exact .inr ⟨b, o, h1, h2, fun k hk => ⟨(hb.cell (p := ⟨b, o + k * 2, none⟩) h2).trans (h3 k hk).1, (hb.cell (p := ⟨b, o + k * 2 + 1, none⟩) h2).trans (h3 k hk).2⟩⟩
theorem RdP.more {w : World} {B B' : Nat} {A : Option Addr} {l : List (Int × Int)} (h : RdP w B A l) (hb : B ≤ B') : RdP w B' A l := by
  rcases h with h | ⟨b, o, h1, h2, h3⟩
  · exact .inl h
  · exact .inr ⟨b, o, h1, by omega, h3⟩
theorem RdP.on {w w' : World} {A : Option Addr} {l : List (Int × Int)} (h : RdP w w.heap.size A l) (hb : Below w.heap.size w w') : RdP w' w'.heap.size A l := (h.keep hb).more hb.size
theorem RdP.at_ {w : World} {B : Nat} {A : Option Addr} {l : List (Int × Int)} (h : RdP w B A l) {k : Nat} (hk : k < l.length) :
    ∃ b o, A = some ⟨b, o, none⟩ ∧ b < B ∧ w.cell? ⟨b, o + k * 2, none⟩ = some (.int .i64 (pa l k)) ∧ w.cell? ⟨b, o + k * 2 + 1, none⟩ = some (.int .i64 (pb l k)) := by
  rcases h with rfl | ⟨b, o, h1, h2, h3⟩
  · simp at hk
  · exact ⟨b, o, h1, h2, h3 k hk⟩

/-! ### rows of the call's own -/
/-- The slice value v is of the call's own (blocks from B on) and holds the integers l. -/
def OwnI (w : World) (B : Nat) (e : TypeId) (v : Value) (l : List Int) : Prop := w.ownsRow B e 1 v l.length (l.map (Value.int .i64))
theorem OwnI.nil (w : World) (B : Nat) (e : TypeId) : OwnI w B e (.slice none 0 0) [] := World.ownsRow_nil _ _ _ _
theorem OwnI.form {w : World} {B : Nat} {e : TypeId} {v : Value} {l : List Int} (h : OwnI w B e v l) :
    (v = .slice none 0 0 ∧ l = []) ∨ ∃ g c, v = .slice (some ⟨g, 0, none⟩) l.length c ∧ B ≤ g ∧ g < w.heap.size ∧ l.length ≤ c ∧ c ≤ maxLen ∧ (∀ k, k < l.length → w.cell? ⟨g, k, none⟩ = some (.int .i64 (ix l k))) ∧ ∀ k, w.frozen? ⟨g, k, none⟩ = false := by
  have h' : w.ownsRow B e 1 v l.length (l.map (Value.int .i64)) := h
  rcases h'.2 with ⟨h1, h2⟩ | ⟨g, cap, cur, rfl, hb, hg, hc, hm, hs, ht⟩
  · exact .inl ⟨h1, List.eq_nil_of_length_eq_zero h2⟩
  · refine .inr ⟨g, cap, rfl, hb, (Array.getElem?_eq_some_iff.1 hg).1, hc, hm, fun k hk => ?_, fun k => h'.frozenAt k⟩
    rw [h'.cellAt k (by omega)]
    simp [ix, hk]
theorem OwnI.rd {w : World} {B : Nat} {e : TypeId} {v : Value} {l : List Int} (h : OwnI w B e v l) : ∃ A c, v = .slice A l.length c ∧ RdI w w.heap.size A l := by
  rcases h.form with ⟨rfl, rfl⟩ | ⟨g, c, rfl, _, hg, _, _, hc, _⟩
  · exact ⟨none, 0, rfl, .inl rfl⟩
  · exact ⟨_, c, rfl, .inr ⟨g, 0, rfl, hg, fun k hk => by rw [Nat.zero_add]; exact hc k hk⟩⟩
theorem OwnI.kept {w w' : World} {B : Nat} {e : TypeId} {v : Value} {l : List Int} (h : OwnI w B e v l) (hb : Below w.heap.size w w') : OwnI w' B e v l := by
  have h' : w.ownsRow B e 1 v l.length (l.map (Value.int .i64)) := h
  exact h'.kept (row := none) ⟨hb.os, hb.tape, hb.output, hb.size, fun k hk _ => hb.block k hk⟩ (by cases v.ownBlock <;> simp)

/-- Behind an append to the row v of k cells: what is not the row's own block stays, and the row's old cells stay. -/
structure Spared (v : Value) (k : Nat) (W w' : World) : Prop where
  by_ : W.grownBy w' v.ownBlock
  old : ∀ g o, v.ownBlock = some g → o < k → w'.cell? ⟨g, o, none⟩ = W.cell? ⟨g, o, none⟩
theorem Spared.cell {v : Value} {k : Nat} {W w' : World} (h : Spared v k W w') {b o : Nat} (hb : b < W.heap.size) (hv : v.ownBlock ≠ some b) : w'.cell? ⟨b, o, none⟩ = W.cell? ⟨b, o, none⟩ :=
  World.grownBy.cell_far h.by_ ⟨b, o, none⟩ hb (fun e => hv e.symm)
theorem Spared.frozen {v : Value} {k : Nat} {W w' : World} (h : Spared v k W w') {b o : Nat} (hb : b < W.heap.size) (hv : v.ownBlock ≠ some b) : w'.frozen? ⟨b, o, none⟩ = W.frozen? ⟨b, o, none⟩ :=
  World.grownBy.frozen_far h.by_ ⟨b, o, none⟩ hb (fun e => hv e.symm)

theorem run_append_kept {P : Program} (w : World) (t ty e : TypeId) (base : Nat) (i : TypeInfo) (z : Value) (size bytes : Nat) (ht : P.underlying t = some (.slice e)) (hi : P.info? e = some i) (hz : i.zero = some z)
    (hsize : i.size = size) (hby : i.bytes = bytes) (hzs : z.cells.size = size) (hsz : 0 < size)
    (v : Value) (n : Nat) (xs : List Value) (hown : w.ownsRow base e size v n xs)
    (a : Addr) (m c : Nat) (news : List Value) (hl : news.length = m * size) (hnews : ∀ j u, news[j]? = some u → w.cell? (a.add j) = some u) (h1 : ∀ u ∈ news, u.oneCell' = true)
    (h63 : n + m ≤ maxLen) (hbytes : (n + m) * bytes ≤ 140737488355328) (hbase : base ≤ w.heap.size) :
    ∃ v' w', (Builtin.append_ #[t, t] ty #[v, .slice (some a) m c]).run P w = .ok v' w' ∧ w'.ownsRow base e size v' (n + m) (xs ++ news) ∧ Spared v (n * size) w w' := by
  obtain ⟨v', w', hr, h2, h3, _⟩ := run_append_own (P := P) w base t ty e i z size bytes ht hi hz hsize hby hzs hsz v n xs hown a m c news hl hnews h1 h63 hbytes hbase
  refine ⟨v', w', hr, h2, h3, fun g o hg ho => ?_⟩
  have hold := hown.cells hg
  have hxo : o < xs.length := by rw [hown.1]; exact ho
  have e1 : w.cell? ⟨g, o, none⟩ = some xs[o] := by
    have := hold o xs[o] (List.getElem?_eq_getElem hxo)
    rwa [Addr.add_lit, Nat.zero_add] at this
  rcases hown.2 with ⟨rfl, _⟩ | ⟨g', cap, cur, rfl, hbg, hgg, hnc, hcm, hcs, htake⟩
  · simp [Value.ownBlock] at hg
  obtain rfl : g' = g := by simpa [Value.ownBlock] using hg
  by_cases hroom : n + m ≤ cap
  · have hfit : n * i.size + news.length ≤ cur.size := by rw [hl, hcs, hsize, ← Nat.add_mul]; exact Nat.mul_le_mul_right _ hroom
    have hr' := run_append_room (P := P) w t ty e i ht hi g' n cap cur hgg a m c news (by rw [hl, hsize]) hnews h1 hroom hfit
    rw [hr] at hr'
    injection hr' with hv hw
    have h4 := h2.cells (g := g') (by rw [hv]; rfl) o xs[o] (by rw [List.getElem?_append_left hxo]; exact List.getElem?_eq_getElem hxo)
    rw [Addr.add_lit, Nat.zero_add] at h4
    rw [h4, e1]
  · have hr' := run_append_grow (P := P) w t ty e i z ht hi hz ⟨g', 0, none⟩ n cap xs (by rw [hown.1, hsize]) hold a m c news (by rw [hl, hsize]) hnews (by omega) (by simp only [maxLen] at h63; omega) (growslice_fits (by omega) (by rw [hby]; exact hbytes))
    rw [hr] at hr'
    injection hr' with hv hw
    rw [hw]
    exact World.cell?_of_block (a := ⟨g', o, none⟩) (heap_alloc_old w.drew _ (Array.getElem?_eq_some_iff.1 hgg).1)
theorem wp_append_kept {P : Program} {o : Oper} {a : Act} {K : Act → World → Prop} {Q : Exit → Act → World → Prop} (w : World) (s x : Operand) (t : TypeId)
    (ho : o.op = .call { callee := .builtin .append, args := #[s, x], argTypes := #[t, t] })
    (base : Nat) (e : TypeId) (i : TypeInfo) (z : Value) (size bytes : Nat) (ht : P.underlying t = some (.slice e)) (hi : P.info? e = some i) (hz : i.zero = some z)
    (hsize : i.size = size) (hby : i.bytes = bytes) (hzs : z.cells.size = size) (hsz : 0 < size)
    (v : Value) (n : Nat) (xs : List Value) (hs : a.eval s = v) (hown : w.ownsRow base e size v n xs)
    (ad : Addr) (m c : Nat) (news : List Value) (hx : a.eval x = .slice (some ad) m c) (hl : news.length = m * size) (hnews : ∀ j u, news[j]? = some u → w.cell? (ad.add j) = some u) (h1 : ∀ u ∈ news, u.oneCell' = true)
    (h63 : n + m ≤ maxLen) (hbytes : (n + m) * bytes ≤ 140737488355328) (hbase : base ≤ w.heap.size)
    (h : ∀ v' w', w'.ownsRow base e size v' (n + m) (xs ++ news) → Spared v (n * size) w w' → K (a.put o.dst v') w') : o.wp P a w K Q := by
  obtain ⟨v', w', hr, h2, h3⟩ := run_append_kept (P := P) w t o.type e base i z size bytes ht hi hz hsize hby hzs hsz v n xs hown ad m c news hl hnews h1 h63 hbytes hbase
  unfold Oper.wp execOp
  simp only [ho, resolve, invoke, builtin, Sem.run_bind, Sem.run_pure, Result.andThen_ok, List.map_toArray, List.map_cons, List.map_nil, hs, hx, hr]
  exact h v' w' h2 h3
theorem Spared.alloc {v : Value} {k : Nat} {W w' : World} {o : Obj} (h : Spared v k (W.alloc o) w') (hv : ∀ g, v.ownBlock = some g → g < W.heap.size) : Spared v k W w' :=
  ⟨⟨h.by_.os, h.by_.tape, h.by_.output, by have := h.by_.size; simp at this; omega, fun k hk hne => (h.by_.block k (by simp; omega) hne).trans (Below.heap_alloc _ _ _ hk)⟩,
   fun g o hg ho => (h.old g o hg ho).trans (World.cell?_of_block (a := ⟨g, o, none⟩) (Below.heap_alloc _ _ _ (hv g hg)))⟩

section
variable {P : Program} {ops : Array Oper} {rest : List Oper} {o : Oper} {a : Act} {Q : Exit → Act → World → Prop}
/-- 'out = append(out, y)', out a row of integers of the call's own. -/
theorem wp_app_int (T : TypeId) (hgd : o.guard = none) (s x : Operand) (ho : o.op = .call { callee := .builtin .append, args := #[s, x], argTypes := #[T, T] })
    (hT : P.underlying T = some (.slice 3)) (hI : (P.info? 3).map (fun i => (i.zero, i.size, i.bytes)) = some (some (.int .i64 0), 1, 8))
    (W : World) (B : Nat) (v : Value) (l : List Int) (y : Int) (hs : a.eval s = v) (hx : a.eval x = .slice (some ⟨W.heap.size, 0, none⟩) 1 1) (hown : OwnI W B 3 v l) (hlen : l.length ≤ 1000000) (hB : B ≤ W.heap.size)
    (h : ∀ v' w', OwnI w' B 3 v' (l ++ [y]) → Below B W w' → Spared v l.length W w' → wpList P ops Q rest (a.put o.dst v') w') :
    wpList P ops Q (o :: rest) a (W.alloc (.cells #[.int .i64 y] 3)) := by
  obtain ⟨i0, hi, hz0, hz1, hz2⟩ := info_parts hI
  refine wpList_plain hgd fun K hK => wp_append_kept _ s x T ho B 3 i0 (.int .i64 0) 1 8 hT hi hz0 hz1 hz2 rfl (by decide) v l.length _ hs (World.ownsRow.alloc hown _) ⟨W.heap.size, 0, none⟩ 1 1 [.int .i64 y] hx rfl (cell_one_new _ _ _) (by simp [Value.oneCell']) (by unfold maxLen; omega) (by omega) (by simp; omega) ?_
  intro v' w' h1 h2
  have hg : Spared v l.length W w' := by simpa using h2.alloc (fun g hg => (World.ownsRow.lt hown g hg).2)
  refine hK _ _ (h v' w' ?_ ?_ hg)
  · show w'.ownsRow B 3 1 v' (l ++ [y]).length ((l ++ [y]).map (Value.int .i64))
    simpa using h1
  · exact (Below.refl _ _).grown hg.by_ hB (fun k hk => (World.ownsRow.lt hown k hk).1)
end

/-! ### rows of pairs -/
def cells2 (l : List (Int × Int)) : List Value := l.flatMap fun p => [.int .i64 p.1, .int .i64 p.2]
theorem cells2_length (l : List (Int × Int)) : (cells2 l).length = l.length * 2 := by
  induction l with
  | nil => rfl
  | cons x l ih => rw [show cells2 (x :: l) = [.int .i64 x.1, .int .i64 x.2] ++ cells2 l from rfl, List.length_append, ih]; simp; omega
theorem cells2_get (l : List (Int × Int)) (k : Nat) (hk : k < l.length) : (cells2 l)[k * 2]? = some (.int .i64 (pa l k)) ∧ (cells2 l)[k * 2 + 1]? = some (.int .i64 (pb l k)) := by
  induction l generalizing k with
  | nil => simp at hk
  | cons x l ih =>
    rw [show cells2 (x :: l) = .int .i64 x.1 :: .int .i64 x.2 :: cells2 l from rfl]
    cases k with
    | zero => simp [pa, pb]
    | succ k =>
      have := ih k (by simpa using hk)
      rw [show (k + 1) * 2 = k * 2 + 1 + 1 by omega]
      simpa [pa, pb] using this
def OwnP (w : World) (B : Nat) (e : TypeId) (v : Value) (l : List (Int × Int)) : Prop := w.ownsRow B e 2 v l.length (cells2 l)
theorem OwnP.nil (w : World) (B : Nat) (e : TypeId) : OwnP w B e (.slice none 0 0) [] := World.ownsRow_nil _ _ _ _
theorem OwnP.form {w : World} {B : Nat} {e : TypeId} {v : Value} {l : List (Int × Int)} (h : OwnP w B e v l) :
    (v = .slice none 0 0 ∧ l = []) ∨ ∃ g c, v = .slice (some ⟨g, 0, none⟩) l.length c ∧ B ≤ g ∧ g < w.heap.size ∧ l.length ≤ c ∧ c ≤ maxLen ∧ (∀ k, k < l.length → w.cell? ⟨g, k * 2, none⟩ = some (.int .i64 (pa l k)) ∧ w.cell? ⟨g, k * 2 + 1, none⟩ = some (.int .i64 (pb l k))) ∧ ∀ k, w.frozen? ⟨g, k, none⟩ = false := by
  have h' : w.ownsRow B e 2 v l.length (cells2 l) := h
  rcases h'.2 with ⟨h1, h2⟩ | ⟨g, cap, cur, rfl, hb, hg, hc, hm, hs, ht⟩
  · exact .inl ⟨h1, List.eq_nil_of_length_eq_zero h2⟩
  · refine .inr ⟨g, cap, rfl, hb, (Array.getElem?_eq_some_iff.1 hg).1, hc, hm, fun k hk => ?_, fun k => h'.frozenAt k⟩
    rw [h'.cellAt (k * 2) (by omega), h'.cellAt (k * 2 + 1) (by omega)]
    exact cells2_get l k hk
theorem OwnP.rd {w : World} {B : Nat} {e : TypeId} {v : Value} {l : List (Int × Int)} (h : OwnP w B e v l) : ∃ A c, v = .slice A l.length c ∧ RdP w w.heap.size A l := by
  rcases h.form with ⟨rfl, rfl⟩ | ⟨g, c, rfl, _, hg, _, _, hc, _⟩
  · exact ⟨none, 0, rfl, .inl rfl⟩
  · exact ⟨_, c, rfl, .inr ⟨g, 0, rfl, hg, fun k hk => by rw [Nat.zero_add]; exact hc k hk⟩⟩
theorem OwnP.kept {w w' : World} {B : Nat} {e : TypeId} {v : Value} {l : List (Int × Int)} (h : OwnP w B e v l) (hb : Below w.heap.size w w') : OwnP w' B e v l := by
  have h' : w.ownsRow B e 2 v l.length (cells2 l) := h
  exact h'.kept (row := none) ⟨hb.os, hb.tape, hb.output, hb.size, fun k hk _ => hb.block k hk⟩ (by cases v.ownBlock <;> simp)
section
variable {P : Program} {ops : Array Oper} {rest : List Oper} {o : Oper} {a : Act} {Q : Exit → Act → World → Prop}
theorem wp_app_pair (T e : TypeId) (hgd : o.guard = none) (s x : Operand) (ho : o.op = .call { callee := .builtin .append, args := #[s, x], argTypes := #[T, T] })
    (hT : P.underlying T = some (.slice e)) (hI : (P.info? e).map (fun i => (i.zero, i.size, i.bytes)) = some (some (.agg #[.int .i64 0, .int .i64 0]), 2, 16))
    (W : World) (B : Nat) (v : Value) (l : List (Int × Int)) (y z : Int) (hs : a.eval s = v) (hx : a.eval x = .slice (some ⟨W.heap.size, 0, none⟩) 1 1) (hown : OwnP W B e v l) (hlen : l.length ≤ 1000000) (hB : B ≤ W.heap.size)
    (h : ∀ v' w', OwnP w' B e v' (l ++ [(y, z)]) → Below B W w' → Spared v (l.length * 2) W w' → wpList P ops Q rest (a.put o.dst v') w') :
    wpList P ops Q (o :: rest) a (W.alloc (.cells #[.int .i64 y, .int .i64 z] e)) := by
  obtain ⟨i0, hi, hz0, hz1, hz2⟩ := info_parts hI
  refine wpList_plain hgd fun K hK => wp_append_kept _ s x T ho B e i0 (.agg #[.int .i64 0, .int .i64 0]) 2 16 hT hi hz0 hz1 hz2 rfl (by decide) v l.length _ hs (World.ownsRow.alloc hown _) ⟨W.heap.size, 0, none⟩ 1 1 [.int .i64 y, .int .i64 z] hx rfl ?_ (by simp [Value.oneCell']) (by unfold maxLen; omega) (by omega) (by simp; omega) ?_
  · exact World.news_of_block (heap_alloc_new W (.cells #[.int .i64 y, .int .i64 z] e))
  intro v' w' h1 h2
  have hg : Spared v (l.length * 2) W w' := h2.alloc (fun g hg => (World.ownsRow.lt hown g hg).2)
  refine hK _ _ (h v' w' ?_ ?_ hg)
  · show w'.ownsRow B e 2 v' (l ++ [(y, z)]).length (cells2 (l ++ [(y, z)]))
    simpa [cells2] using h1
  · exact (Below.refl _ _).grown hg.by_ hB (fun k hk => (World.ownsRow.lt hown k hk).1)
end

/-- A block of the call's own that is known whole: a box. -/
def Box (w : World) (g : Nat) (t : TypeId) (cs : Array Value) : Prop := w.heap[g]? = some (.cells cs t (0, 0))
theorem Box.lt {w : World} {g : Nat} {t : TypeId} {cs : Array Value} (h : Box w g t cs) : g < w.heap.size := (Array.getElem?_eq_some_iff.1 h).1
theorem Box.cell {w : World} {g : Nat} {t : TypeId} {cs : Array Value} (h : Box w g t cs) (i : Nat) : w.cell? ⟨g, i, none⟩ = cs[i]? := cell_of_row w g i cs t (0, 0) h
theorem Box.frozen {w : World} {g : Nat} {t : TypeId} {cs : Array Value} (h : Box w g t cs) (i : Nat) : w.frozen? ⟨g, i, none⟩ = false := by
  unfold Box at h; simp [World.frozen?, h]
theorem Box.new (w : World) (t : TypeId) (cs : Array Value) : Box (w.alloc (.cells cs t)) w.heap.size t cs := heap_alloc_new w _
theorem Box.alloc {w : World} {g : Nat} {t : TypeId} {cs : Array Value} (h : Box w g t cs) (o : Obj) : Box (w.alloc o) g t cs := (Below.heap_alloc w o g h.lt).trans h
theorem Box.keep {w w' : World} {B g : Nat} {t : TypeId} {cs : Array Value} (h : Box w g t cs) (hb : Below B w w') (hg : g < B) : Box w' g t cs := (hb.block g hg).trans h
theorem Box.on {w w' : World} {g : Nat} {t : TypeId} {cs : Array Value} (h : Box w g t cs) (hb : Below w.heap.size w w') : Box w' g t cs := h.keep hb h.lt
theorem Box.set_ {w : World} {g : Nat} {t : TypeId} {cs : Array Value} (h : Box w g t cs) (i : Nat) (u : Value) : Box (w.setCell ⟨g, i, none⟩ u) g t (cs.setIfInBounds i u) := by
  unfold Box at h ⊢; simp [World.setCell, Array.getElem?_modify, h]
theorem Box.far {w : World} {g : Nat} {t : TypeId} {cs : Array Value} (h : Box w g t cs) {p : Addr} (hp : g ≠ p.block) (u : Value) : Box (w.setCell p u) g t cs := (Below.heap_setCell w p u g hp).trans h
theorem Box.spared {v : Value} {k : Nat} {w w' : World} {g : Nat} {t : TypeId} {cs : Array Value} (h : Box w g t cs) (hs : Spared v k w w') (hv : v.ownBlock ≠ some g) : Box w' g t cs :=
  (World.grownBy.block hs.by_ g h.lt (fun e => hv e.symm)).trans h
theorem own_ne_box {w : World} {base : Nat} {e : TypeId} {size n : Nat} {v : Value} {xs : List Value} {g : Nat} {t : TypeId} {cs : Array Value} (h : w.ownsRow base e size v n xs) (hg : Box w g t cs) (hne : e ≠ t) : v.ownBlock ≠ some g := by
  rcases h.2 with ⟨rfl, _⟩ | ⟨g', cap, cur, rfl, _, hh, _⟩
  · simp [Value.ownBlock]
  · intro he
    have : g' = g := by simpa [Value.ownBlock] using he
    subst this
    unfold Box at hg
    rw [hh] at hg
    injection hg with hg
    injection hg with _ ht
    exact hne ht

section
variable {P : Program} {ops : Array Oper} {o : Oper} {a : Act} {Q : Exit → Act → World → Prop} {K : Act → World → Prop} {E : Prop}
/-- 'append(out, y)' at a step of a region that draws its order. -/
theorem step_app_int (T : TypeId) (hgd : o.guard = none) (s x : Operand) (ho : o.op = .call { callee := .builtin .append, args := #[s, x], argTypes := #[T, T] })
    (hT : P.underlying T = some (.slice 3)) (hI : (P.info? 3).map (fun i => (i.zero, i.size, i.bytes)) = some (some (.int .i64 0), 1, 8))
    (W : World) (B nb : Nat) (v : Value) (l : List Int) (y : Int) (hs : a.eval s = v) (hx : a.eval x = .slice (some ⟨nb, 0, none⟩) 1 1) (hown : OwnI W B 3 v l) (hbx : Box W nb 3 #[.int .i64 y]) (hlen : l.length ≤ 1000000) (hB : B ≤ W.heap.size)
    (h : ∀ v' w', OwnI w' B 3 v' (l ++ [y]) → Below B W w' → Spared v l.length W w' → K (a.put o.dst v') w') :
    if Region.wanted o (yielded ops a.tmps) = true then Oper.wp P o a W K Q else E := by
  have hw : Region.wanted o (yielded ops a.tmps) = true := by simp [Region.wanted, hgd]
  rw [if_pos hw]
  obtain ⟨i0, hi, hz0, hz1, hz2⟩ := info_parts hI
  refine wp_append_kept W s x T ho B 3 i0 (.int .i64 0) 1 8 hT hi hz0 hz1 hz2 rfl (by decide) v l.length _ hs hown ⟨nb, 0, none⟩ 1 1 [.int .i64 y] hx rfl (World.news_of_block hbx) (by simp [Value.oneCell']) (by unfold maxLen; omega) (by omega) hB ?_
  intro v' w' h1 h2
  refine h v' w' ?_ ?_ (by simpa using h2)
  · show w'.ownsRow B 3 1 v' (l ++ [y]).length ((l ++ [y]).map (Value.int .i64))
    simpa using h1
  · exact (Below.refl _ _).grown h2.by_ hB (fun k hk => (World.ownsRow.lt hown k hk).1)
theorem step_app_pair (T e : TypeId) (hgd : o.guard = none) (s x : Operand) (ho : o.op = .call { callee := .builtin .append, args := #[s, x], argTypes := #[T, T] })
    (hT : P.underlying T = some (.slice e)) (hI : (P.info? e).map (fun i => (i.zero, i.size, i.bytes)) = some (some (.agg #[.int .i64 0, .int .i64 0]), 2, 16))
    (W : World) (B nb : Nat) (v : Value) (l : List (Int × Int)) (y z : Int) (hs : a.eval s = v) (hx : a.eval x = .slice (some ⟨nb, 0, none⟩) 1 1) (hown : OwnP W B e v l) (hbx : Box W nb e #[.int .i64 y, .int .i64 z]) (hlen : l.length ≤ 1000000) (hB : B ≤ W.heap.size)
    (h : ∀ v' w', OwnP w' B e v' (l ++ [(y, z)]) → Below B W w' → Spared v (l.length * 2) W w' → K (a.put o.dst v') w') :
    if Region.wanted o (yielded ops a.tmps) = true then Oper.wp P o a W K Q else E := by
  have hw : Region.wanted o (yielded ops a.tmps) = true := by simp [Region.wanted, hgd]
  rw [if_pos hw]
  obtain ⟨i0, hi, hz0, hz1, hz2⟩ := info_parts hI
  refine wp_append_kept W s x T ho B e i0 (.agg #[.int .i64 0, .int .i64 0]) 2 16 hT hi hz0 hz1 hz2 rfl (by decide) v l.length _ hs hown ⟨nb, 0, none⟩ 1 1 [.int .i64 y, .int .i64 z] hx rfl (World.news_of_block hbx) (by simp [Value.oneCell']) (by unfold maxLen; omega) (by omega) hB ?_
  intro v' w' h1 h2
  refine h v' w' ?_ ?_ h2
  · show w'.ownsRow B e 2 v' (l ++ [(y, z)]).length (cells2 (l ++ [(y, z)]))
    simpa [cells2] using h1
  · exact (Below.refl _ _).grown h2.by_ hB (fun k hk => (World.ownsRow.lt hown k hk).1)
end

/-! ### quiet calls -/
theorem quiet_left {P : Program} {f : FuncId} {args : Array Value} {w : World} {n : Nat} {v : Value} (h : Calls P f args (w.drewN n) fun e w' => e = .returned v ∧ w.drewN n = w') : Calls P f args (w.drewN n) fun e w'' => e = .returned v ∧ ∃ m, w'' = w.drewN m :=
  h.mono fun _ _ ⟨he, hm⟩ => ⟨he, n, hm.symm⟩
theorem quiet_add {P : Program} {f : FuncId} {args : Array Value} {w : World} {a n : Nat} {v : Value} (h : Calls P f args (w.drewN (a + n)) fun e w' => e = .returned v ∧ ∃ m, w' = (w.drewN (a + n)).drewN m) : Calls P f args (w.drewN (a + n)) fun e w'' => e = .returned v ∧ ∃ m, w'' = w.drewN (a + m) :=
  h.mono fun _ _ ⟨he, m, hm⟩ => ⟨he, n + m, by rw [hm, World.drewN_drewN, Nat.add_assoc]⟩
theorem quiet_add_left {P : Program} {f : FuncId} {args : Array Value} {w : World} {a n : Nat} {v : Value} (h : Calls P f args (w.drewN (a + n)) fun e w' => e = .returned v ∧ w.drewN (a + n) = w') : Calls P f args (w.drewN (a + n)) fun e w'' => e = .returned v ∧ ∃ m, w'' = w.drewN (a + m) :=
  h.mono fun _ _ ⟨he, hm⟩ => ⟨he, n, hm.symm⟩

/-! ### integers that a literal lays -/
theorem RdI.one (w : World) (x : Int) (t : TypeId) : RdI (w.alloc (.cells #[.int .i64 x] t)) (w.alloc (.cells #[.int .i64 x] t)).heap.size (some ⟨w.heap.size, 0, none⟩) [x] :=
  .inr ⟨_, _, rfl, by simp, fun k hk => by
    rw [(Box.new w t #[.int .i64 x]).cell]
    match k, hk with
    | 0, _ => rfl⟩
theorem RdI.two (w : World) (x y : Int) (t : TypeId) : RdI (w.alloc (.cells #[.int .i64 x, .int .i64 y] t)) (w.alloc (.cells #[.int .i64 x, .int .i64 y] t)).heap.size (some ⟨w.heap.size, 0, none⟩) [x, y] :=
  .inr ⟨_, _, rfl, by simp, fun k hk => by
    rw [(Box.new w t #[.int .i64 x, .int .i64 y]).cell]
    match k, hk with
    | 0, _ => rfl
    | 1, _ => rfl⟩
theorem RdP.two (w : World) (a b c d : Int) (t : TypeId) : RdP (w.alloc (.cells #[.int .i64 a, .int .i64 b, .int .i64 c, .int .i64 d] t)) (w.alloc (.cells #[.int .i64 a, .int .i64 b, .int .i64 c, .int .i64 d] t)).heap.size (some ⟨w.heap.size, 0, none⟩) [(a, b), (c, d)] :=
  .inr ⟨_, _, rfl, by simp, fun k hk => by
    rw [(Box.new w t _).cell, (Box.new w t _).cell]
    match k, hk with
    | 0, _ => exact ⟨rfl, rfl⟩
    | 1, _ => exact ⟨rfl, rfl⟩⟩

theorem cell_box1 (w : World) (x y : Value) (t u : TypeId) : ((w.alloc (.cells #[x] t)).alloc (.cells #[y] u)).cell? ⟨w.heap.size, 0, none⟩ = some x := ((Box.new w t #[x]).alloc _).cell 0
theorem cell_box2 (w : World) (x y : Value) (t u : TypeId) : ((w.alloc (.cells #[x] t)).alloc (.cells #[y] u)).cell? ⟨w.heap.size + 1, 0, none⟩ = some y := by
  have h := (Box.new (w.alloc (.cells #[x] t)) u #[y]).cell 0
  rwa [World.size_alloc] at h
theorem keep1 {w : World} {x : Value} {t : TypeId} {W : World} (hB : Below (w.alloc (.cells #[x] t)).heap.size (w.alloc (.cells #[x] t)) W) : W.cell? ⟨w.heap.size, 0, none⟩ = some x := by
  rw [hB.cell (p := ⟨w.heap.size, 0, none⟩) (by simp)]; exact cell_one _ _ _
theorem keep21 {w : World} {x y : Value} {t u : TypeId} {W : World} (hB : Below ((w.alloc (.cells #[x] t)).alloc (.cells #[y] u)).heap.size ((w.alloc (.cells #[x] t)).alloc (.cells #[y] u)) W) : W.cell? ⟨w.heap.size, 0, none⟩ = some x := by
  rw [hB.cell (p := ⟨w.heap.size, 0, none⟩) (by simp; omega)]; exact cell_box1 _ _ _ _ _
theorem keep22 {w : World} {x y : Value} {t u : TypeId} {W : World} (hB : Below ((w.alloc (.cells #[x] t)).alloc (.cells #[y] u)).heap.size ((w.alloc (.cells #[x] t)).alloc (.cells #[y] u)) W) : W.cell? ⟨w.heap.size + 1, 0, none⟩ = some y := by
  rw [hB.cell (p := ⟨w.heap.size + 1, 0, none⟩) (by simp)]; exact cell_box2 _ _ _ _ _
end Go.Proofs.YtkjiancdhaocaaaDoor
