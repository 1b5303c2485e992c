/- A region that draws its order and ends in a store: what the region reads holds behind every operation but the last one. -/
import Derived.Test.YteodljaphkpimaaDoorLibR
namespace Go.Proofs.YteodljaphkpimaaDoor
set_option linter.unusedVariables false
open Go.RowKit Go.Shelf
section
variable {P : Program} {ops : Array Oper} {Q : Exit → Act → World → Prop} {md : Region.Mode} {S : World → Prop} {last : Nat}
/-- whichever order: S behind each operation but `last` -/
def Ord (P : Program) (md : Region.Mode) (ops : Array Oper) (Q : Exit → Act → World → Prop) (S : World → Prop) (last : Nat) : Nat → Array Bool → Act → World → Prop
  | 0, done, a, w => Region.ready md ops done = [] ∧ Q .normal a w
  | k + 1, done, a, w => (Region.ready md ops done = [] → Q .normal a w) ∧ ∀ i ∈ Region.ready md ops done, wpOp P ops Q i (fun a' w' => (i ≠ last → S w') ∧ Ord P md ops Q S last k (done.setIfInBounds i true) a' w') a w
theorem Ord.any : ∀ (k : Nat) (done : Array Bool) (a : Act) (w : World), Ord P md ops Q S last k done a w → wpAny P md ops Q k done a w
  | 0, _, _, _, h => h
  | k + 1, _, _, _, h => ⟨h.1, fun i hi => wpOp_mono (fun a' w' h' => Ord.any k _ a' w' h'.2) (h.2 i hi)⟩
/-- the last one waits for number i -/
def waitsFor (md : Region.Mode) (ops : Array Oper) (last i : Nat) : Bool := match ops[last]? with
  | none => false
  | some o => o.after.toList.any fun e => Region.binds md e && e.on == i
theorem waitsFor.not_ready {i : Nat} {done : Array Bool} (h : waitsFor md ops last i = true) (hi : i ∈ Region.ready md ops done) : last ∉ Region.ready md ops done := fun hl => by
  obtain ⟨-, o, ho, hall⟩ := mem_ready.1 hl
  unfold waitsFor at h
  simp only [ho, List.any_eq_true, Bool.and_eq_true, beq_iff_eq] at h
  obtain ⟨e, he, hb, rfl⟩ := h
  have h1 := hall e (Array.mem_def.2 he) hb
  have h0 := (mem_ready.1 hi).1
  rcases Nat.lt_or_ge e.on done.size with h' | h'
  · simp [h'] at h0 h1; rw [h0] at h1; cases h1
  · simp [Array.getElem?_eq_none h'] at h1
theorem Ord.first {i : Nat} {oi : Oper} {v : Value} (hi : ops[i]? = some oi) (hsel : Region.noSelect ops = true) (hw : waitsFor md ops last i = true)
    (hQ : ∀ c a w, Q (.panic c) (a.put oi.dst v) w → Q (.panic c) a w) : ∀ (k : Nat) (done : Array Bool) (a : Act) (w : World),
      (∀ j oj, ops[j]? = some oj → j ≠ i → done.getD j true = false → (∀ e ∈ oj.after, Region.binds md e = true → e.on ≠ i) → oi.apart ops oj = true) →
      i ∈ Region.ready md ops done → YieldsIf P ops S oi v a → S w → Ord P md ops Q S last k (done.setIfInBounds i true) (a.put oi.dst v) w → Ord P md ops Q S last (k + 1) done a w
  | 0, done, a, w, _, hr, hy, hS, H => ⟨fun h => (by rw [h] at hr; cases hr), fun j hj => by
      by_cases e : j = i
      · subst e; exact hy.wpOp hi hS ⟨fun _ => hS, H⟩
      · have := ready_mono hj e
        rw [H.1] at this
        cases this⟩
  | k + 1, done, a, w, hf, hr, hy, hS, H => ⟨fun h => (by rw [h] at hr; cases hr), fun j hj => by
      by_cases e : j = i
      · subst e; exact hy.wpOp hi hS ⟨fun _ => hS, H⟩
      · have hl : j ≠ last := fun e => waitsFor.not_ready hw hr (e ▸ hj)
        obtain ⟨hun, oj, hoj, hall⟩ := mem_ready.1 hj
        have hno : ∀ e ∈ oj.after, Region.binds md e = true → e.on ≠ i := fun e he hb heq => by
          have h1 := hall e he hb
          have h0 := (mem_ready.1 hr).1
          rw [heq] at h1
          rcases Nat.lt_or_ge i done.size with h' | h'
          · simp [h'] at h0 h1; rw [h0] at h1; cases h1
          · simp [Array.getElem?_eq_none h'] at h1
        refine wpOp_mono (fun a' w' h3 => ⟨fun _ => h3.2.1 hl, Ord.first hi hsel hw hQ k (done.setIfInBounds j true) a' w' ?_ (ready_mono hr (Ne.symm e)) h3.1 (h3.2.1 hl) ?_⟩)
          (wpOp_putIf hoj (hf j oj hoj e hun hno) (fun cs b => Region.noSelect_spec hsel i oi cs b hi) (fun cs b => Region.noSelect_spec hsel j oj cs b hoj) hQ hy (H.2 j (ready_mono hj e)))
        · intro m om hm hmi hum hnm
          refine hf m om hm hmi ?_ hnm
          by_cases hjm : j = m
          · subst hjm; exact hun
          · rw [getD_set_ne true hjm] at hum; exact hum
        · rw [Array.setIfInBounds_comm _ _ e]
          exact h3.2.2⟩
theorem Ord.take {i : Nat} {oi : Oper} {v : Value} {k : Nat} {done : Array Bool} {a : Act} {w : World} (hi : ops[i]? = some oi) (hs : Region.noSelect ops = true) (hw : waitsFor md ops last i = true)
    (hf : Region.free md ops done i = true) (hr : (Region.ready md ops done).contains i = true) (hQ : ∀ c a w, Q (.panic c) (a.put oi.dst v) w → Q (.panic c) a w) (hy : YieldsIf P ops S oi v a) (hS : S w)
    (h : Ord P md ops Q S last k (done.setIfInBounds i true) (a.put oi.dst v) w) : Ord P md ops Q S last (k + 1) done a w :=
  Ord.first hi hs hw hQ k done a w (Region.free_spec hi hf) (by simpa using hr) hy hS h
theorem Ord.one {i : Nat} {k : Nat} {done : Array Bool} {a : Act} {w : World} {o : Oper} (hr : Region.ready md ops done = [i]) (ho : ops[i]? = some o)
    (h : ∀ K' : Act → World → Prop, Shut (∀ a w, (i ≠ last → S w) → ((i ≠ last → S w) → Ord P md ops Q S last k (done.setIfInBounds i true) a w) → K' a w) → if Region.wanted o (yielded ops a.tmps) = true then Oper.wp P o a w K' Q else K' (a.put o.dst undef) w) :
    Ord P md ops Q S last (k + 1) done a w :=
  ⟨fun h0 => (by rw [h0] at hr; cases hr), fun j hj => by
    rw [hr] at hj
    obtain rfl : j = i := by simpa using hj
    exact wpOp_step ho (fun K' hK => h K' (fun a w hS hW => hK a w ⟨hS, hW hS⟩))⟩
theorem Ord.done {done : Array Bool} {a : Act} {w : World} (hr : Region.ready md ops done = []) (h : Q .normal a w) : ∀ k, Ord P md ops Q S last k done a w
  | 0 => ⟨hr, h⟩
  | _ + 1 => ⟨fun _ => h, by rw [hr]; simp⟩
theorem round_region_ord {l n : Nat} {Q : Exit → Act → World → Prop} {id : Nat} {a : Act} {w : World} (S : World → Prop) (last : Nat) (hm : P.follows .mixedOrders = true) (hd : noDefer ops = true)
    (h : Ord P .any ops (NoOut Q) S last ops.size (Array.replicate ops.size false) a w.drew) : (Code.region id ops true).wpIn (Fence.wide.inRound l) n P Q a w :=
  Code.wpIn_mono NoOut.imp (wpIn_region_any hm (wpAnyIn_of (noDefer_spec hd) NoOut.lets _ _ _ _ (Ord.any _ _ _ _ h)))
end
end Go.Proofs.YteodljaphkpimaaDoor
