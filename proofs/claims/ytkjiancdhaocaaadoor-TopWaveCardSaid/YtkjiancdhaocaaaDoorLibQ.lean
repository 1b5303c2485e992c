/- Plain lemmas: a region that draws its order, that reads and calls what makes memory: one walk of its text serves every order; blocks of integers of any type. -/
import Derived.Deep.QuietTactic
import Derived.BigQuiet
import Derived.Test.YtkjiancdhaocaaaDoorLib2
namespace Go.Proofs.YtkjiancdhaocaaaDoor
set_option linter.unusedVariables false
open Go.RowKit

/-- the worlds in which nothing that lay has turned -/
structure Over (w : World) where
  W : World
  b : Below w.heap.size w W
instance over_nonempty (w : World) : Nonempty (Over w) := ⟨⟨w, Below.refl _ _⟩⟩
theorem Over.cell {w : World} (W : Over w) {b o : Nat} {v : Value} (h : w.cell? ⟨b, o, none⟩ = some v) : W.W.cell? ⟨b, o, none⟩ = some v :=
  (W.b.cell (p := ⟨b, o, none⟩) (World.block_lt_of_cell? _ _ h)).trans h
theorem over_call {P : Program} {f : FuncId} {args : Array Value} {w : World} (W : Over w) {v : Value} (h : Calls P f args W.W fun e w' => e = .returned v ∧ Below W.W.heap.size W.W w') :
    Calls P f args W.W fun e w'' => e = .returned v ∧ ∃ W' : Over w, w'' = W'.W :=
  h.mono fun _ w' ⟨he, hb⟩ => ⟨he, ⟨w', W.b.trs hb⟩, rfl⟩
theorem wp_region_over {P : Program} {id : Nat} {Q : Exit → Act → World → Prop} {a : Act} {w : World} {l : List Oper} (hm : P.follows .mixedOrders = true) (hB : Region.lexB .any l.toArray = true)
    (h : wpQuiet P l.toArray (fun w' => ∃ W : Over w, w' = W.W) (fun a' => ∀ w', (∃ W : Over w, w' = W.W) → Q .normal a' w') l a) : (Code.region id l.toArray true).wp P Q a w :=
  wp_region_quiet (C := fun w' => ∃ W : Over w, w' = W.W) hm hB ⟨⟨w.drew, (Below.refl _ _).drew⟩, rfl⟩ (by simpa using h)

/-- a block of integers, of some type, that is known whole -/
def BoxK (t : TypeId) (w : World) (g : Nat) (l : List Int) : Prop := Box w g t (l.map (Value.int .i64)).toArray
section
variable {t : TypeId} {w w' : World} {g : Nat} {l : List Int}
theorem BoxK.lt (h : BoxK t w g l) : g < w.heap.size := Box.lt h
theorem BoxK.cell (h : BoxK t w g l) {k : Nat} (hk : k < l.length) : w.cell? ⟨g, k, none⟩ = some (.int .i64 (ix l k)) := by
  rw [Box.cell h]; simp [ix, hk]
theorem BoxK.frozen (h : BoxK t w g l) (k : Nat) : w.frozen? ⟨g, k, none⟩ = false := Box.frozen h k
theorem BoxK.on (h : BoxK t w g l) (hb : Below w.heap.size w w') : BoxK t w' g l := Box.on h hb
theorem BoxK.alloc (h : BoxK t w g l) (o : Obj) : BoxK t (w.alloc o) g l := Box.alloc h o
theorem BoxK.far (h : BoxK t w g l) {p : Addr} (hp : g ≠ p.block) (u : Value) : BoxK t (w.setCell p u) g l := Box.far h hp u
theorem BoxK.set_ (h : BoxK t w g l) (k : Nat) (x : Int) : BoxK t (w.setCell ⟨g, k, none⟩ (.int .i64 x)) g (l.set k x) := by
  have := Box.set_ h k (.int .i64 x)
  unfold BoxK
  rw [List.map_set]
  simpa using this
theorem BoxK.rd (h : BoxK t w g l) : RdI w w.heap.size (some ⟨g, 0, none⟩) l :=
  .inr ⟨g, 0, rfl, h.lt, fun k hk => by rw [Nat.zero_add]; exact h.cell hk⟩
theorem BoxK.there (h : BoxK t w g l) : w.there g 0 (l.map (Value.int .i64)).toArray.size := fun j hj => by
  have hj' : j < l.length := by simpa using hj
  rw [Nat.zero_add]
  exact ⟨by rw [h.cell hj']; rfl, h.frozen j⟩
end
/-- the cells of a block set one by one -/
theorem box_setCells {w : World} {g : Nat} {t : TypeId} : ∀ (vs : List Value) (o : Nat) (cs : Array Value), Box w g t cs → o + vs.length ≤ cs.size → Box (w.setCells g o vs) g t (cs.toList.take o ++ vs ++ cs.toList.drop (o + vs.length)).toArray := by
  intro vs
  induction vs generalizing w with
  | nil => intro o cs h _; simpa [World.setCells] using h
  | cons v vs ih =>
    intro o cs h hl
    simp only [List.length_cons] at hl
    have h1 := ih (w := w.setCell ⟨g, o, none⟩ v) (o + 1) _ (h.set_ o v) (by simp; omega)
    have e : ((cs.setIfInBounds o v).toList.take (o + 1) ++ vs ++ (cs.setIfInBounds o v).toList.drop (o + 1 + vs.length)) = cs.toList.take o ++ (v :: vs) ++ cs.toList.drop (o + (v :: vs).length) := by
      have hsz : o < cs.toList.length := by simp; omega
      rw [Array.toList_setIfInBounds, List.drop_set_of_lt (by omega), List.take_set, List.take_succ_eq_append_getElem hsz]
      rw [List.set_append_right _ _ (by simp; omega)]
      simp
      rw [show o + 1 + vs.length = o + (vs.length + 1) by omega]
      have : o - min o cs.size = 0 := by simp at hsz; omega
      rw [this]; rfl
    rw [e] at h1
    exact h1
theorem BoxK.store {t : TypeId} {w : World} {g : Nat} {l l' : List Int} (h : BoxK t w g l) (hl : l'.length = l.length) : BoxK t (w.setCells g 0 (l'.map (Value.int .i64)).toArray.toList) g l' := by
  have := box_setCells (l'.map (Value.int .i64)) 0 _ h (by simp [hl])
  unfold BoxK
  have e : (l.map (Value.int .i64)).drop l.length = [] := List.drop_eq_nil_of_le (by simp)
  simpa [hl, e] using this
theorem below_setCells {B : Nat} {a : World} {g : Nat} (hg : B ≤ g) : ∀ (vs : List Value) (o : Nat) (w : World), Below B a w → Below B a (w.setCells g o vs) := by
  intro vs
  induction vs with
  | nil => intro o w h; exact h
  | cons v vs ih => intro o w h; exact ih (o + 1) _ (h.setCell (p := ⟨g, o, none⟩) hg v)
theorem wpList_index {P : Program} {ops : Array Oper} {rest : List Oper} {o : Oper} {a : Act} {w : World} {Q : Exit → Act → World → Prop} (hgd : o.guard = none) (ty : TypeId) (x i : Operand) (ho : o.op = .index ty x i) (vx vi v : Value)
    (hx : a.eval x = vx) (hi : a.eval i = vi) (hrun : (Instr.index ty vx vi).run P w = .ok v w) (h : wpList P ops Q rest (a.put o.dst v) w) : wpList P ops Q (o :: rest) a w := by
  refine wpList_plain hgd fun K hK => ?_
  unfold Oper.wp execOp
  simp only [ho, hx, hi, Sem.run_bind, Sem.run_pure, hrun, Result.andThen_ok]
  exact hK _ _ h
theorem results_cell {P : Program} {fn : Func} {a : Tmp} {t : TypeId} {tmps : Array Value} {p : Addr} {V : Value} {w : World} (h : fn.results = #[.cell a t]) (hp : tmps.getD a undef = .pointer (some p)) (hl : (loadVar t p).run P w = .ok V w) :
    (results fn tmps).run P w = .ok V w := by
  have e : (asAddr (.pointer (some p))).run P w = .ok p w := rfl
  rw [Array.getD_eq_getD_getElem?] at hp
  simp [results, h, hp, e, hl, Sem.run_bind]
theorem results_cell_tmp {P : Program} {fn : Func} {a b : Tmp} {t : TypeId} {tmps : Array Value} {p : Addr} {V : Value} {w : World} (h : fn.results = #[.cell a t, .tmp b]) (hp : tmps.getD a undef = .pointer (some p)) (hl : (loadVar t p).run P w = .ok V w) :
    (results fn tmps).run P w = .ok (.tuple #[V, tmps.getD b undef]) w := by
  have e : (asAddr (.pointer (some p))).run P w = .ok p w := rfl
  rw [Array.getD_eq_getD_getElem?] at hp
  simp [results, h, hp, e, hl, Sem.run_bind]
end Go.Proofs.YtkjiancdhaocaaaDoor
