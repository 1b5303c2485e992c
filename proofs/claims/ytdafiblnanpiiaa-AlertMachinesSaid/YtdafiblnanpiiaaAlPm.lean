/- How the reference's search lies in memory: blocks of cells that are known, each by a function. -/
import Derived.Test.YtdafiblnanpiiaaAlRK
import Derived.Test.YtdafiblnanpiiaaAlLawP
namespace Go.Proofs.Ytdafiblnanpiiaa
open Go.RowKit
set_option linter.unusedSimpArgs false
set_option linter.unusedVariables false

/-- the first N cells of block b -/
structure CellsR (b N : Nat) (F : Nat → Value) (W : World) : Prop where
  cell : ∀ q, q < N → W.cell? ⟨b, q, none⟩ = some (F q)
  free : ∀ q, q < N → W.frozen? ⟨b, q, none⟩ = false
theorem CellsR.lt {b N : Nat} {F : Nat → Value} {W : World} (h : CellsR b N F W) (hN : 0 < N) : b < W.heap.size := World.block_lt_of_cell? _ _ (h.cell 0 hN)
theorem CellsR.keep {b N B : Nat} {F : Nat → Value} {W W' : World} (h : CellsR b N F W) (hB : Below B W W') (hb : b < B) : CellsR b N F W' :=
  ⟨fun q hq => (hB.cell (p := ⟨b, q, none⟩) hb).trans (h.cell q hq), fun q hq => (hB.frozen (p := ⟨b, q, none⟩) hb).trans (h.free q hq)⟩
theorem CellsR.set_ {b N : Nat} {F : Nat → Value} {W : World} (h : CellsR b N F W) {k : Nat} (hk : k < N) (u : Value) : CellsR b N (fun q => if q = k then u else F q) (W.setCell ⟨b, k, none⟩ u) := by
  refine ⟨fun q hq => ?_, fun q hq => by rw [World.frozen?_setCell]; exact h.free q hq⟩
  by_cases e : q = k
  · subst e; rw [if_pos rfl]; exact World.cell?_setCell_same' _ _ _ (by rw [h.cell q hq]; rfl)
  · rw [if_neg e, World.cell?_setCell_other _ _ _ _ (by intro e'; injection e'; omega)]; exact h.cell q hq
theorem CellsR.far {b N : Nat} {F : Nat → Value} {W : World} (h : CellsR b N F W) {p : Addr} (hp : b ≠ p.block) (u : Value) : CellsR b N F (W.setCell p u) :=
  ⟨fun q hq => by rw [World.cell?_setCell_other _ _ _ _ (by intro e; apply hp; have e2 := congrArg Addr.block e; first | exact e2 | exact e2.symm)]; exact h.cell q hq, fun q hq => by rw [World.frozen?_setCell]; exact h.free q hq⟩
theorem CellsR.drewN {b N : Nat} {F : Nat → Value} {W : World} (h : CellsR b N F W) (n : Nat) : CellsR b N F (W.drewN n) := ⟨h.cell, h.free⟩
theorem CellsR.grown {b N : Nat} {F : Nat → Value} {W w' : World} {v : Value} {k : Nat} (h : CellsR b N F W) (hs : Spared v k W w') (hb : b < W.heap.size) (hv : v.ownBlock ≠ some b) : CellsR b N F w' :=
  ⟨fun q hq => (hs.cell hb hv).trans (h.cell q hq), fun q hq => (hs.frozen hb hv).trans (h.free q hq)⟩
theorem CellsR.congr {b N : Nat} {F G : Nat → Value} {W : World} (h : CellsR b N F W) (e : ∀ q, q < N → F q = G q) : CellsR b N G W := ⟨fun q hq => by rw [h.cell q hq, e q hq], h.free⟩
theorem CellsR.of_box {b N : Nat} {t : TypeId} {cs : Array Value} {W : World} (h : Box W b t cs) (F : Nat → Value) (hF : ∀ q, q < N → cs[q]? = some (F q)) : CellsR b N F W := ⟨fun q hq => by rw [h.cell]; exact hF q hq, fun q _ => h.frozen q⟩

abbrev intF (f : Nat → Int) : Nat → Value := fun q => .int .i64 (f q)
abbrev inF (Q : List Nat) : Nat → Value := fun q => .bool (decide (q ∈ Q))
abbrev hasF (H : Nat → Nat → Bool) : Nat → Value := fun q => .bool (H (q / 100) (q % 100))
theorem hasF_at (H : Nat → Nat → Bool) {i m : Nat} (hm : m < 100) : hasF H (i * 100 + m) = .bool (H i m) := by
  unfold hasF; rw [show (i * 100 + m) / 100 = i by omega, show (i * 100 + m) % 100 = m by omega]
theorem hasF_upd (H : Nat → Nat → Bool) {i m : Nat} (hm : m < 100) (b : Bool) (q : Nat) : (if q = i * 100 + m then Value.bool b else hasF H q) = hasF (updH H i m b) q := by
  unfold hasF
  by_cases e : q = i * 100 + m
  · rw [if_pos e, show q / 100 = i by omega, show q % 100 = m by omega, updH_same]
  · rw [if_neg e, updH_other (by rintro ⟨h1, h2⟩; omega)]
theorem intF_upd (f : Nat → Int) (k : Nat) (x : Int) (q : Nat) : (if q = k then Value.int .i64 x else intF f q) = intF (updF f k x) q := by
  unfold intF updF; split <;> rfl
theorem inF_upd (Q : List Nat) (j : Nat) (q : Nat) : (if q = j then Value.bool true else inF Q q) = inF (Q ++ [j]) q := by
  unfold inF
  by_cases e : q = j
  · rw [if_pos e, e, decide_eq_true (by simp)]
  · rw [if_neg e]
    congr 1
    rw [decide_eq_decide]; simp [e]

/-- the search: has, used, by, from, found, and the queue -/
structure PtR (hb ub b0 : Nat) (H : Nat → Nat → Bool) (U : Nat → Int) (Q : List Nat) (bm fr : Nat → Int) (v : Value) (W : World) : Prop where
  has : CellsR hb 1200 (hasF H) W
  used : CellsR ub 100 (intF U) W
  by_ : CellsR b0 100 (intF bm) W
  from_ : CellsR (b0 + 1) 12 (intF fr) W
  fnd : CellsR (b0 + 3) 12 (inF Q) W
  que : OwnI W (b0 + 2) 3 v (List.map (fun j : Nat => (j : Int)) Q)
  qb : v.ownBlock ≠ some (b0 + 3)
structure Lies (B0 hb ub b0 : Nat) : Prop where
  h1 : B0 ≤ hb
  h2 : B0 ≤ ub
  h3 : hb < b0
  h4 : ub < b0
  h5 : hb ≠ ub
section
variable {B0 hb ub b0 : Nat} {H : Nat → Nat → Bool} {U : Nat → Int} {Q : List Nat} {bm fr : Nat → Int} {v : Value} {W : World}
theorem PtR.sz (h : PtR hb ub b0 H U Q bm fr v W) : b0 + 3 < W.heap.size := h.fnd.lt (by omega)
theorem PtR.drewN (h : PtR hb ub b0 H U Q bm fr v W) (n : Nat) : PtR hb ub b0 H U Q bm fr v (W.drewN n) :=
  ⟨h.has.drewN n, h.used.drewN n, h.by_.drewN n, h.from_.drewN n, h.fnd.drewN n, h.que.kept ((Below.refl _ _).drewsN n), h.qb⟩
theorem queue_far {p : Addr} {u : Value} (h : OwnI W (b0 + 2) 3 v (List.map (fun j : Nat => (j : Int)) Q)) (hp : v.ownBlock ≠ some p.block) : OwnI (W.setCell p u) (b0 + 2) 3 v (List.map (fun j : Nat => (j : Int)) Q) := by
  have h' : W.ownsRow (b0 + 2) 3 1 v _ _ := h
  refine h'.kept (row := some p.block) ?_ ?_
  · exact ⟨rfl, rfl, rfl, by simp [World.setCell], fun k hk hne => Below.heap_setCell W p u k (fun e => hne (by rw [e]))⟩
  · cases hv : v.ownBlock with
    | none => exact .inl rfl
    | some g => exact .inr (by rw [← hv]; exact hp)
theorem PtR.blk (h : PtR hb ub b0 H U Q bm fr v W) {b : Nat} (hb : b < b0 + 2) : v.ownBlock ≠ some b := fun e => by
  have := (World.ownsRow.lt (show W.ownsRow (b0 + 2) 3 1 v _ _ from h.que) b e).1
  omega
theorem PtR.setHas (h : PtR hb ub b0 H U Q bm fr v W) (hl : Lies B0 hb ub b0) {i m : Nat} (hi : i < 12) (hm : m < 100) (b : Bool) : PtR hb ub b0 (updH H i m b) U Q bm fr v (W.setCell ⟨hb, i * 100 + m, none⟩ (.bool b)) := by
  have h1 := hl.h3; have h2 := hl.h4; have h3 := hl.h5
  exact ⟨(h.has.set_ (k := i * 100 + m) (by omega) _).congr (fun q _ => hasF_upd H hm b q), h.used.far (by show ub ≠ hb; omega) _, h.by_.far (by show b0 ≠ hb; omega) _, h.from_.far (by show b0 + 1 ≠ hb; omega) _, h.fnd.far (by show b0 + 3 ≠ hb; omega) _, queue_far h.que (h.blk (b := hb) (by omega)), h.qb⟩
theorem PtR.setUsed (h : PtR hb ub b0 H U Q bm fr v W) (hl : Lies B0 hb ub b0) {m : Nat} (hm : m < 100) (x : Int) : PtR hb ub b0 H (updF U m x) Q bm fr v (W.setCell ⟨ub, m, none⟩ (.int .i64 x)) := by
  have h1 := hl.h3; have h2 := hl.h4; have h3 := hl.h5
  exact ⟨h.has.far (by show hb ≠ ub; omega) _, (h.used.set_ hm _).congr (fun q _ => intF_upd U m x q), h.by_.far (by show b0 ≠ ub; omega) _, h.from_.far (by show b0 + 1 ≠ ub; omega) _, h.fnd.far (by show b0 + 3 ≠ ub; omega) _, queue_far h.que (h.blk (b := ub) (by omega)), h.qb⟩
theorem PtR.setBy (h : PtR hb ub b0 H U Q bm fr v W) (hl : Lies B0 hb ub b0) {m : Nat} (hm : m < 100) (x : Int) : PtR hb ub b0 H U Q (updF bm m x) fr v (W.setCell ⟨b0, m, none⟩ (.int .i64 x)) := by
  have h1 := hl.h3; have h2 := hl.h4
  exact ⟨h.has.far (by show hb ≠ b0; omega) _, h.used.far (by show ub ≠ b0; omega) _, (h.by_.set_ hm _).congr (fun q _ => intF_upd bm m x q), h.from_.far (by show b0 + 1 ≠ b0; omega) _, h.fnd.far (by show b0 + 3 ≠ b0; omega) _, queue_far h.que (h.blk (b := b0) (by omega)), h.qb⟩
/-- a task is found: the three writes and the append -/
theorem PtR.fnd_ (h : PtR hb ub b0 H U Q bm fr v W) (hl : Lies B0 hb ub b0) {j : Nat} (hj : j < 12) (x : Int) {v' : Value} {w' : World}
    (ho : OwnI w' (b0 + 2) 3 v' ((List.map (fun j : Nat => (j : Int)) Q) ++ [(j : Int)])) (hs : Spared v (List.map (fun j : Nat => (j : Int)) Q).length ((W.setCell ⟨b0 + 3, j, none⟩ (.bool true)).setCell ⟨b0 + 1, j, none⟩ (.int .i64 x)) w') (hf : Fresh v v' W.heap.size) :
    PtR hb ub b0 H U (Q ++ [j]) bm (updF fr j x) v' w' := by
  have h1 := hl.h3; have h2 := hl.h4
  have hsz := h.sz
  have hsz2 : ((W.setCell ⟨b0 + 3, j, none⟩ (.bool true)).setCell ⟨b0 + 1, j, none⟩ (.int .i64 x)).heap.size = W.heap.size := by simp [World.setCell]
  refine ⟨?_, ?_, ?_, ?_, ?_, by simpa using ho, ?_⟩
  · exact ((h.has.far (p := ⟨b0 + 3, j, none⟩) (by show hb ≠ b0 + 3; omega) _).far (by show hb ≠ b0 + 1; omega) _).grown hs (by rw [hsz2]; omega) (h.blk (by omega))
  · exact ((h.used.far (p := ⟨b0 + 3, j, none⟩) (by show ub ≠ b0 + 3; omega) _).far (by show ub ≠ b0 + 1; omega) _).grown hs (by rw [hsz2]; omega) (h.blk (by omega))
  · exact ((h.by_.far (p := ⟨b0 + 3, j, none⟩) (by show b0 ≠ b0 + 3; omega) _).far (by show b0 ≠ b0 + 1; omega) _).grown hs (by rw [hsz2]; omega) (h.blk (by omega))
  · exact ((((h.from_.far (p := ⟨b0 + 3, j, none⟩) (by show b0 + 1 ≠ b0 + 3; omega) _).set_ hj _).congr (fun q _ => intF_upd fr j x q))).grown hs (by rw [hsz2]; omega) (h.blk (by omega))
  · exact (((h.fnd.set_ hj _).congr (fun q _ => inF_upd Q j q)).far (p := ⟨b0 + 1, j, none⟩) (by show b0 + 3 ≠ b0 + 1; omega) _).grown hs (by rw [hsz2]; omega) h.qb
  · intro e
    rcases hf _ e with h3 | h3
    · exact h.qb h3
    · omega
/-- an element of the queue -/
theorem PtR.at_ (h : PtR hb ub b0 H U Q bm fr v W) {q : Nat} (hq : q < Q.length) : ∃ g c, v = .slice (some ⟨g, 0, none⟩) Q.length c ∧ W.cell? ⟨g, q, none⟩ = some (.int .i64 (Q[q] : Nat)) := by
  rcases h.que.form with ⟨_, h0⟩ | ⟨g, c, h1, _, _, _, _, h2, _⟩
  · rw [List.map_eq_nil_iff] at h0; rw [h0] at hq; simp at hq
  · refine ⟨g, c, by rw [h1, List.length_map], ?_⟩
    rw [h2 q (by rw [List.length_map]; exact hq)]
    simp [ix, hq]
theorem PtR.len (h : PtR hb ub b0 H U Q bm fr v W) (hQ : Q ≠ []) : ∃ g c, v = .slice (some ⟨g, 0, none⟩) Q.length c := by
  obtain ⟨g, c, h1, _⟩ := h.at_ (q := 0) (List.length_pos_iff.2 hQ)
  exact ⟨g, c, h1⟩
end
end Go.Proofs.Ytdafiblnanpiiaa
