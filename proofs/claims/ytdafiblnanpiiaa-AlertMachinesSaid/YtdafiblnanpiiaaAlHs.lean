/- How several machines lie in memory: a map of numbers to true reads as a set; the hall; the minutes that were tried. -/
import Derived.Test.YtdafiblnanpiiaaAlQ
import Derived.Test.YtdafiblnanpiiaaAlLawS
import Derived.Maps.OwnSet
import Derived.WalkArith
namespace Go.Proofs.Ytdafiblnanpiiaa
open Go.RowKit
open Go.Maps (Keyed)
set_option linter.unusedSimpArgs false
set_option linter.unusedVariables false

theorem keyed3 : Keyed Try.prog 3 := Go.Maps.int_keyed Try.underlying3
abbrev keyL (i : Nat) : Lit := .int .i64 i
theorem key_lit (i : Nat) : WideAt.IsKeyLit (keyL i) := trivial
theorem key_ne {i j : Nat} (h : i ≠ j) : keyL i ≠ keyL j := fun e => h (by injection e with _ e; omega)
theorem key_of {i : Nat} (h : i ≤ 1000000) : keyOf Try.prog 3 (.int .i64 i) = some (keyL i) := Go.Maps.keyOf_int_mk Try.underlying3 (WalkArith.wf_i64 (by omega))
theorem zero_bool (w : World) : (zeroValue 4).run Try.prog w = .ok (.bool false) w := by kernel_rfl
noncomputable abbrev elB : Value → Option (DataW Unit × List MemPlace) := plainElem Try.prog 4
theorem elB_bool (x : Bool) : elB (.bool x) = some (.lit (.bool x), []) := plainElem_bool Try.underlying4 x
theorem elB_inv {v : Value} {b : Bool} {ps : List MemPlace} (h : elB v = some (.lit (.bool b), ps)) : v = .bool b := by
  cases v with
  | bool x =>
    rw [elB_bool x] at h
    injection h with h
    injection h with h1 _
    injection h1 with h1
    injection h1 with h1
    rw [h1]
  | _ => exact absurd h (by simp [plainElem, Try.underlying4])

/-- a map of the call's own, of numbers below n to true, reads as a set -/
def MapS (w : World) (r n : Nat) (S : Nat → Bool) : Prop :=
  ∃ (N : Nat) (D : DataW Unit), w.ownsMap Try.prog 3 elB r N D ∧ N ≤ n ∧ (∀ i : Nat, D.atKey (keyL i) (.lit (.bool false)) = .lit (.bool (S i)) ∧ Maps.has D (keyL i) = S i) ∧ (Maps.size D : Int) = sm n (fun i => bI (S i)) ∧ ∀ i, S i = true → i < n
theorem owns_tight {H : Type} {P : Program} {k : TypeId} {R : Value → Option (DataW H × List MemPlace)} {w : World} {b n : Nat} {D : DataW H} (h : w.ownsMap P k R b n D) : w.ownsMap P k R b (Maps.size D) D := by
  obtain ⟨es, clock, hb, F, hs, rfl⟩ := h
  exact ⟨es, clock, hb, F, by simp [Maps.size, length_sorted], rfl⟩
theorem sm_bI_le (n : Nat) (S : Nat → Bool) : 0 ≤ sm n (fun i => bI (S i)) ∧ sm n (fun i => bI (S i)) ≤ n := by
  induction n with
  | zero => simp [sm]
  | succ n ih => simp only [sm]; have := bI_bd (S n); omega
theorem MapS.mk' {w : World} {r n N : Nat} {S : Nat → Bool} {D : DataW Unit} (h : w.ownsMap Try.prog 3 elB r N D) (h1 : ∀ i : Nat, D.atKey (keyL i) (.lit (.bool false)) = .lit (.bool (S i)) ∧ Maps.has D (keyL i) = S i) (h2 : (Maps.size D : Int) = sm n (fun i => bI (S i))) (h3 : ∀ i, S i = true → i < n) : MapS w r n S :=
  ⟨Maps.size D, D, owns_tight h, by have := sm_bI_le n S; omega, h1, h2, h3⟩
theorem MapS.lt {w : World} {r n : Nat} {S : Nat → Bool} (h : MapS w r n S) : r < w.heap.size := by
  obtain ⟨N, D, h, _⟩ := h
  exact h.lt
theorem MapS.kept {w w' : World} {r n : Nat} {S : Nat → Bool} {row : Option Nat} (h : MapS w r n S) (hg : w.grownBy w' row) (hne : some r ≠ row) : MapS w' r n S := by
  obtain ⟨N, D, h, h1⟩ := h
  exact ⟨N, D, h.kept hg hne, h1⟩
theorem MapS.drewN {w : World} {r n : Nat} {S : Nat → Bool} (h : MapS w r n S) (q : Nat) : MapS (w.drewN q) r n S := h
theorem MapS.keep {w w' : World} {r n B : Nat} {S : Nat → Bool} (h : MapS w r n S) (hb : Below B w w') (hr : r < B) : MapS w' r n S := by
  obtain ⟨N, D, ⟨es, clock, hh, h0⟩, h1⟩ := h
  exact ⟨N, D, ⟨es, clock, (hb.block r hr).trans hh, h0⟩, h1⟩
theorem MapS.setCell {w : World} {r n : Nat} {S : Nat → Bool} (h : MapS w r n S) {a : Addr} (ha : r ≠ a.block) (u : Value) : MapS (w.setCell a u) r n S := by
  obtain ⟨N, D, h, h1⟩ := h
  exact ⟨N, D, h.setCell ha u, h1⟩
theorem MapS.made (w : World) (n : Nat) : MapS (w.alloc (.map #[] 0)) w.heap.size n (fun _ => false) := by
  refine MapS.mk' (World.ownsMap_made w _ _ _) (fun i => ⟨rfl, rfl⟩) ?_ (fun i h => by cases h)
  rw [show sm n (fun i => bI ((fun _ => false) i)) = 0 from ?_]
  · rfl
  · induction n with
    | zero => rfl
    | succ n ih => simp only [sm, ih]; rfl
theorem MapS.lookup {w : World} {r n : Nat} {S : Nat → Bool} (h : MapS w r n S) {i : Nat} (hi : i ≤ 1000000) : (Instr.lookup 86 (.map (some r)) (.int .i64 i) false).run Try.prog w = .ok (.bool (S i)) w := by
  obtain ⟨N, D, h, _, h1, _⟩ := h
  obtain ⟨v, ps, hrun, hv⟩ := h.lookup keyed3 Try.underlying86 (zero_bool w) (elB_bool false) (key_of hi)
  rw [(h1 i).1] at hv
  rw [elB_inv hv] at hrun
  exact hrun
theorem MapS.len {w : World} {r n : Nat} {S : Nat → Bool} (h : MapS w r n S) (ty : TypeId) : (Builtin.len_ #[86] ty #[.map (some r)]).run Try.prog w = .ok (.int .i64 (sm n (fun i => bI (S i)))) w := by
  obtain ⟨N, D, h, _, _, h2, _⟩ := h
  rw [h.len Try.underlying86 ty, h2]
theorem sm_upd1 (n : Nat) (S : Nat → Bool) (i : Nat) (hi : i < n) (b : Bool) : sm n (fun j => bI (if j = i then b else S j)) = sm n (fun j => bI (S j)) + bI b - bI (S i) := by
  rw [show (fun j => bI (if j = i then b else S j)) = (fun j => if j = i then bI b else bI (S j)) from funext fun j => by split <;> rfl, sm_upd, if_pos hi]; omega
theorem MapS.put {w : World} {r n : Nat} {S : Nat → Bool} (h : MapS w r n S) {i : Nat} (hi : i < n) (hn : n ≤ 1000000) :
    ∃ w', (Instr.mapUpdate 86 (.map (some r)) (.int .i64 i) (.bool true)).run Try.prog w = .ok () w' ∧ MapS w' r n (fun j => if j = i then true else S j) ∧ w.grownBy w' (some r) := by
  obtain ⟨N, D, h, hN, h1, h2, h3⟩ := h
  have ht := h.tidy keyed3
  obtain ⟨w', r1, r2, r3⟩ := h.update keyed3 Try.underlying86 (by unfold maxLen; omega) (key_of (i := i) (by omega)) (elB_bool true)
  refine ⟨w', r1, MapS.mk' r2 (fun j => ?_) ?_ (fun j hj => ?_), r3⟩
  · by_cases e : j = i
    · subst e
      rw [if_pos rfl]
      exact ⟨Maps.atKey_put_same ht.isMap (key_lit j) _ _, Maps.has_put_same ht.isMap (key_lit j) _⟩
    · rw [if_neg e]
      exact ⟨by rw [Maps.atKey_put_other (key_ne e)]; exact (h1 j).1, by rw [Maps.has_put_other (key_ne e)]; exact (h1 j).2⟩
  · rw [Maps.size_put ht, (h1 i).2, sm_upd1 n S i hi]
    cases hS : S i
    · rw [if_neg (by simp), show bI true = 1 from rfl, show bI false = 0 from rfl]; omega
    · rw [if_pos rfl, show bI true = 1 from rfl]; omega
  · by_cases e : j = i
    · omega
    · rw [if_neg e] at hj; exact h3 j hj
theorem MapS.del {w : World} {r n : Nat} {S : Nat → Bool} (h : MapS w r n S) {i : Nat} (hi : i < n) (hn : n ≤ 1000000) (ty : TypeId) :
    ∃ w', (Builtin.delete_ #[86, 3] ty #[.map (some r), .int .i64 i]).run Try.prog w = .ok (.tuple #[]) w' ∧ MapS w' r n (fun j => if j = i then false else S j) ∧ w.grownBy w' (some r) := by
  obtain ⟨N, D, h, hN, h1, h2, h3⟩ := h
  have ht := h.tidy keyed3
  obtain ⟨w', r1, r2, r3⟩ := h.drop keyed3 Try.underlying86 (key_of (i := i) (by omega)) ty
  refine ⟨w', r1, MapS.mk' r2 (fun j => ?_) ?_ (fun j hj => ?_), r3.grown⟩
  · by_cases e : j = i
    · subst e
      rw [if_pos rfl]
      exact ⟨Maps.atKey_del_same _, Maps.has_del_same⟩
    · rw [if_neg e]
      exact ⟨by rw [Maps.atKey_del_other (key_ne e)]; exact (h1 j).1, by rw [Maps.has_del_other (key_ne e)]; exact (h1 j).2⟩
  · have h4 := Maps.size_del (k := keyL i) ht
    rw [(h1 i).2] at h4
    rw [sm_upd1 n S i hi]
    rw [show bI false = 0 from rfl]
    cases hS : S i <;> rw [hS] at h4
    · rw [if_neg (by simp)] at h4; rw [show bI false = 0 from rfl]; omega
    · rw [if_pos rfl] at h4; rw [show bI true = 1 from rfl]; omega
  · by_cases e : j = i
    · rw [if_pos e] at hj; cases hj
    · rw [if_neg e] at hj; exact h3 j hj

section
variable {ops : Array Oper} {rest : List Oper} {o : Oper} {a : Act} {Q : Exit → Act → World → Prop}
theorem wpList_putS (hg : o.guard = none) (m x v : Operand) (hop : o.op = Op.mapUpdate 86 m x v) {w : World} {r n : Nat} {S : Nat → Bool} (h : MapS w r n S) {i : Nat} (hi : i < n) (hn : n ≤ 1000000)
    (hm : a.eval m = .map (some r)) (hx : a.eval x = .int .i64 i) (hv : a.eval v = .bool true)
    (hK : ∀ w', MapS w' r n (fun j => if j = i then true else S j) → w.grownBy w' (some r) → wpList Try.prog ops Q rest (a.put o.dst undef) w') : wpList Try.prog ops Q (o :: rest) a w := by
  refine wpList_plain hg fun K' hK' => ?_
  obtain ⟨w', hrun, r1, r2⟩ := h.put hi hn
  unfold Oper.wp
  simp [execOp, hop, hm, hx, hv, hrun, Result.andThen]
  exact hK' _ _ (hK w' r1 r2)
theorem wpList_delS (hg : o.guard = none) (m x : Operand) (hop : o.op = Op.call { callee := Callee.builtin Builtin.delete, args := #[m, x], argTypes := #[86, 3] }) {w : World} {r n : Nat} {S : Nat → Bool} (h : MapS w r n S) {i : Nat} (hi : i < n) (hn : n ≤ 1000000)
    (hm : a.eval m = .map (some r)) (hx : a.eval x = .int .i64 i)
    (hK : ∀ w', MapS w' r n (fun j => if j = i then false else S j) → w.grownBy w' (some r) → wpList Try.prog ops Q rest (a.put o.dst (.tuple #[])) w') : wpList Try.prog ops Q (o :: rest) a w := by
  refine wpList_plain hg fun K' hK' => ?_
  obtain ⟨w', hrun, r1, r2⟩ := h.del hi hn o.type
  unfold Oper.wp
  simp [execOp, hop, resolve, invoke, builtin, hm, hx, hrun, Result.andThen]
  exact hK' _ _ (hK w' r1 r2)
end

/-- the hall: tasks, machines, and a map for each minute -/
structure HallR (A : Option Addr) (n c : Nat) (K : Int) (hb : Nat) (R : Nat → Nat) (H : Nat → Nat → Bool) (W : World) : Prop where
  cT : W.cell? ⟨hb, 0, none⟩ = some (.slice A n c)
  cK : W.cell? ⟨hb, 1, none⟩ = some (.int .i64 K)
  cM : ∀ m, m < 100 → W.cell? ⟨hb, 2 + m, none⟩ = some (.map (some (R m)))
  mp : ∀ m, m < 100 → MapS W (R m) n (fun i => H i m)
/-- where the maps lie -/
structure Rooms (B0 hb tb : Nat) (R : Nat → Nat) : Prop where
  inj : ∀ m m', m < 100 → m' < 100 → R m = R m' → m = m'
  hall : ∀ m, m < 100 → R m ≠ hb
  tried : ∀ m, m < 100 → R m ≠ tb
  ht : hb ≠ tb
  up : B0 ≤ hb ∧ B0 ≤ tb ∧ ∀ m, m < 100 → B0 ≤ R m
/-- the minutes that were tried -/
structure TrR (tb : Nat) (T : Nat → Bool) (W : World) : Prop where
  cell : ∀ m, m < 100 → W.cell? ⟨tb, m, none⟩ = some (.bool (T m))
  free : ∀ m, m < 100 → W.frozen? ⟨tb, m, none⟩ = false
theorem HallR.lt {A : Option Addr} {n c : Nat} {K : Int} {hb : Nat} {R : Nat → Nat} {H : Nat → Nat → Bool} {W : World} (h : HallR A n c K hb R H W) : hb < W.heap.size := World.block_lt_of_cell? _ _ h.cT
theorem TrR.lt {tb : Nat} {T : Nat → Bool} {W : World} (h : TrR tb T W) : tb < W.heap.size := World.block_lt_of_cell? _ _ (h.cell 0 (by omega))
/-- a map is written -/
theorem HallR.upd {A : Option Addr} {n c : Nat} {K : Int} {B0 hb tb : Nat} {R : Nat → Nat} {H : Nat → Nat → Bool} {W w' : World} (h : HallR A n c K hb R H W) (hr : Rooms B0 hb tb R) {i m : Nat} (hm : m < 100) {b : Bool} (hg : W.grownBy w' (some (R m))) (hS : MapS w' (R m) n (fun j => if j = i then b else H j m)) : HallR A n c K hb R (updH H i m b) w' := by
  have hc : ∀ o, w'.cell? ⟨hb, o, none⟩ = W.cell? ⟨hb, o, none⟩ := fun o => World.grownBy.cell_far hg ⟨hb, o, none⟩ h.lt (fun e => hr.hall m hm (by injection e with e; exact e.symm))
  refine ⟨(hc 0).trans h.cT, (hc 1).trans h.cK, fun q hq => (hc _).trans (h.cM q hq), fun q hq => ?_⟩
  by_cases e : q = m
  · subst e
    have e2 : (fun j => updH H i q b j q) = (fun j => if j = i then b else H j q) := funext fun j => by
      by_cases ej : j = i
      · rw [ej, updH_same, if_pos rfl]
      · rw [updH_other (by simp [ej]), if_neg ej]
    rw [e2]; exact hS
  · have e2 : (fun j => updH H i m b j q) = (fun j => H j q) := funext fun j => updH_other (by simp [e])
    rw [e2]
    exact (h.mp q hq).kept hg (fun e' => e (hr.inj q m hq hm (by injection e')))
theorem TrR.grown {tb : Nat} {T : Nat → Bool} {W w' : World} {r : Nat} (h : TrR tb T W) (hg : W.grownBy w' (some r)) (hr : r ≠ tb) : TrR tb T w' :=
  ⟨fun m hm => (World.grownBy.cell_far hg ⟨tb, m, none⟩ h.lt (fun e => hr (by injection e with e; exact e.symm))).trans (h.cell m hm), fun m hm => (World.grownBy.frozen_far hg ⟨tb, m, none⟩ h.lt (fun e => hr (by injection e with e; exact e.symm))).trans (h.free m hm)⟩
/-- a minute is tried -/
def setT (T : Nat → Bool) (m : Nat) : Nat → Bool := fun q => if q = m then true else T q
theorem TrR.set_ {tb : Nat} {T : Nat → Bool} {W : World} (h : TrR tb T W) {m : Nat} (hm : m < 100) : TrR tb (setT T m) (W.setCell ⟨tb, m, none⟩ (.bool true)) := by
  refine ⟨fun q hq => ?_, fun q hq => by rw [World.frozen?_setCell]; exact h.free q hq⟩
  unfold setT
  by_cases e : q = m
  · subst e; rw [if_pos rfl]; exact World.cell?_setCell_same' _ _ _ (by rw [h.cell q hq]; rfl)
  · rw [if_neg e, World.cell?_setCell_other _ _ _ _ (by intro e'; injection e'; omega)]; exact h.cell q hq
theorem HallR.set_ {A : Option Addr} {n c : Nat} {K : Int} {B0 hb tb : Nat} {R : Nat → Nat} {H : Nat → Nat → Bool} {W : World} (h : HallR A n c K hb R H W) (hr : Rooms B0 hb tb R) (m : Nat) (u : Value) : HallR A n c K hb R H (W.setCell ⟨tb, m, none⟩ u) := by
  have hc : ∀ o, (W.setCell ⟨tb, m, none⟩ u).cell? ⟨hb, o, none⟩ = W.cell? ⟨hb, o, none⟩ := fun o => World.cell?_setCell_other _ _ _ _ (by intro e; injection e with e; exact hr.ht (by first | exact e | exact e.symm))
  exact ⟨(hc 0).trans h.cT, (hc 1).trans h.cK, fun q hq => (hc _).trans (h.cM q hq), fun q hq => (h.mp q hq).setCell (hr.tried q hq) u⟩
theorem HallR.drewN {A : Option Addr} {n c : Nat} {K : Int} {hb : Nat} {R : Nat → Nat} {H : Nat → Nat → Bool} {W : World} (h : HallR A n c K hb R H W) (q : Nat) : HallR A n c K hb R H (W.drewN q) :=
  ⟨h.cT, h.cK, h.cM, fun m hm => (h.mp m hm).drewN q⟩
theorem TrR.drewN {tb : Nat} {T : Nat → Bool} {W : World} (h : TrR tb T W) (q : Nat) : TrR tb T (W.drewN q) := ⟨h.cell, h.free⟩

/-! ### the search, in steps -/
/-- how many minutes were not tried -/
def leftT (T : Nat → Bool) : Int := sm 100 (fun m => bI (!T m))
theorem leftT_bd (T : Nat → Bool) : 0 ≤ leftT T ∧ leftT T ≤ 100 := sm_bI_le 100 (fun m => !T m)
theorem leftT_set {T : Nat → Bool} {m : Nat} (hm : m < 100) (h : T m = false) : leftT (setT T m) = leftT T - 1 := by
  unfold leftT
  rw [show (fun q => bI (!(setT T m q))) = (fun q => bI (if q = m then false else !T q)) from funext fun q => by unfold setT; split <;> rfl, sm_upd1 100 (fun q => !T q) m hm, h]
  simp [bI]
theorem leftT_le {T T' : Nat → Bool} (h : ∀ m, T m = true → T' m = true) : leftT T' ≤ leftT T := by
  unfold leftT
  refine sm_le fun m hm => ?_
  cases hT : T m
  · have := bI_bd (!T' m); simp [bI] at this ⊢; split <;> simp
  · rw [h m hT]; simp
theorem setT_more (T : Nat → Bool) (m : Nat) : ∀ q, T q = true → setT T m q = true := fun q h => by unfold setT; split <;> first | rfl | exact h
theorem setT_same (T : Nat → Bool) (m : Nat) : setT T m m = true := by unfold setT; rw [if_pos rfl]
theorem setT_other {T : Nat → Bool} {m q : Nat} (h : q ≠ m) : setT T m q = T q := if_neg h
/-- a minute that is full, whose tasks all found none -/
theorem TriedH.step {L : List (Int × Int × Int)} {k : Int} {H : Nat → Nat → Bool} {T T2 : Nat → Bool} {m : Nat} (h : TriedH L k H (setT T m) T2) (hf : k ≤ colS L.length H m) (hc : ∀ j, j < L.length → H j m = true → ClT L H T2 j) : TriedH L k H T T2 := by
  refine ⟨fun q hq => h.more q (setT_more T m q hq), fun q hq h1 h2 => ?_, fun q hq h1 h2 j hj hH => ?_⟩
  · by_cases e : q = m
    · rw [e]; exact hf
    · exact h.full q hq h1 (by rw [setT_other e]; exact h2)
  · by_cases e : q = m
    · rw [e] at hH; exact hc j hj hH
    · exact h.cl q hq h1 (by rw [setT_other e]; exact h2) j hj hH
end Go.Proofs.Ytdafiblnanpiiaa
