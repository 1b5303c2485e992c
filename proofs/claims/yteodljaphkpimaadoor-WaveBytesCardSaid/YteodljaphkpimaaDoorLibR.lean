/- Plain lemmas: a region that draws its order, in the round of a range over a function, by the laws outside a round. -/
import Derived.RangeFuncNested
import Derived.RangeFuncBound
import Derived.RangeFuncCalls
import Derived.RangeFuncLeaves
import Derived.Shelf.Abstract
import Derived.Shelf.RegionOpen
import Derived.WalkKit
import Derived.OwnWalkIn
import Derived.TacticsInMore
import Derived.LoopNIn
import Derived.LoopIn
import Derived.Deep.RegionHeld3
import Derived.Deep.QuietTactic
import Derived.Test.YteodljaphkpimaaDoorLib
namespace Go.Proofs.YteodljaphkpimaaDoor
set_option linter.unusedVariables false
open Go.RowKit Go.Shelf

/-- Q, but 'False' where the machine is outgrown. -/
def NoOut (Q : Exit → Act → World → Prop) : Exit → Act → World → Prop
  | .outgrown, _, _ => False
  | e, a, w => Q e a w
theorem NoOut.imp {Q : Exit → Act → World → Prop} : ∀ (e : Exit) (a : Act) (w : World), NoOut Q e a w → Q e a w := fun e a w h => by
  cases e <;> first | exact h | exact (h : False).elim
theorem NoOut.lets {Q : Exit → Act → World → Prop} : ¬ LetsOut (NoOut Q) := fun ⟨_, _, h⟩ => h
theorem NoOut.normal {Q : Exit → Act → World → Prop} {a : Act} {w : World} (h : Q .normal a w) : NoOut Q .normal a w := h

def noDefer (ops : Array Oper) : Bool := ops.toList.all fun o => match o.op with | .defer _ => false | _ => true
theorem noDefer_spec {ops : Array Oper} (h : noDefer ops = true) : ∀ (i : Nat) (o : Oper), ops[i]? = some o → ∀ c, o.op ≠ Op.defer c := fun i o ho c hc => by
  unfold noDefer at h
  rw [List.all_eq_true] at h
  have := h o (by rw [← Array.mem_def]; exact Array.mem_of_getElem? ho)
  rw [hc] at this
  cases this

section
variable {l n : Nat} {P : Program} {ops : Array Oper} {md : Region.Mode}
theorem wpIn_of_wp {o : Oper} {a : Act} {w : World} {K : Act → World → Prop} {Q : Exit → Act → World → Prop} (hd : ∀ c, o.op ≠ .defer c) (h : o.wp P a w K Q) : o.wpIn (Fence.wide.inRound l) n P a w K Q := by
  refine ⟨fun _ _ => trivial, ?_⟩
  show o.uponIn _ n P a K Q ((o.semAt (some l) a.eval).run P w)
  rw [Oper.semAt_some l _ o hd]
  unfold Oper.wp at h
  generalize (execOp a.eval o).run P w = r at *
  cases r with
  | ok x w' =>
    cases x
    case enter f args =>
      refine ⟨fun hx => (by cases hx), ?_⟩
      refine CallsIn.inRound l (callsIn_wide.2 (Calls.mono h ?_))
      intro e w'' he
      cases e <;> exact he
    case row r args =>
      refine ⟨fun hx => (by cases hx), ?_⟩
      intro c cs _
      obtain ⟨v, w2, r, s⟩ := h c cs
      refine ⟨v, w2, r, ?_⟩
      show StepsIn (Machine.fenced P (Fence.wide.inRound l)) P _ _
      rw [fenced_inRound]
      exact stepsIn_wide.2 s
    all_goals first | exact h | exact h.elim
  | halt x w' => cases x <;> exact h
theorem wpAnyIn_of {Q : Exit → Act → World → Prop} (hd : ∀ (i : Nat) (o : Oper), ops[i]? = some o → ∀ c, o.op ≠ Op.defer c) (hQ : ¬ LetsOut Q) : ∀ (fuel : Nat) (listed : Array Bool) (a : Act) (w : World), wpAny P md ops Q fuel listed a w → wpAnyIn (Fence.wide.inRound l) n P md ops Q fuel listed a w
  | 0, _, _, _, h => h
  | fuel + 1, listed, a, w, h => by
    refine ⟨h.1, fun i hi => ?_⟩
    have h1 := h.2 i hi
    unfold wpOp at h1
    unfold wpOpIn
    cases ho : ops[i]? with
    | none => rw [ho] at h1; exact wpAnyIn_of hd hQ fuel _ _ _ h1
    | some o =>
      rw [ho] at h1
      simp only at h1 ⊢
      by_cases hw : Region.wanted o (yielded ops a.tmps) = true
      · rw [if_pos hw] at h1 ⊢
        rcases h1 with h1 | ⟨_, h1⟩
        · exact wpIn_of_wp (hd i o ho) (Oper.wp_mono (fun a w h => wpAnyIn_of hd hQ fuel _ _ _ h) h1)
        · exact absurd h1 hQ
      · rw [if_neg hw] at h1 ⊢
        exact ⟨fun _ _ => trivial, wpAnyIn_of hd hQ fuel _ _ _ h1⟩
/-- the beginning of a region in a round, by one condition on the world -/
theorem round_region_held {Q : Exit → Act → World → Prop} {S : World → Prop} {id : Nat} {a : Act} {w : World} (hm : P.follows .mixedOrders = true) (hd : noDefer ops = true) (hS : S w.drew)
    (h : S w.drew → wpAnyH P .any ops (NoOut Q) S ops.size (Array.replicate ops.size false) a w.drew) : (Code.region id ops true).wpIn (Fence.wide.inRound l) n P Q a w :=
  Code.wpIn_mono NoOut.imp (wpIn_region_any hm (wpAnyIn_of (noDefer_spec hd) NoOut.lets _ _ _ _ (wpAny_of_held _ _ _ _ (h hS))))
/-- the same, for a region that reads and calls quietly alone -/
theorem round_region_quiet {Q : Exit → Act → World → Prop} {id : Nat} {a : Act} {w : World} {k : List Oper} (hm : P.follows .mixedOrders = true) (hd : noDefer k.toArray = true) (hB : Region.lexB .any k.toArray = true)
    (h : wpQuiet P k.toArray (fun w' => ∃ n, w' = w.drewN n) (fun a' => ∀ w', (∃ n, w' = w.drewN n) → NoOut Q .normal a' w') k a) : (Code.region id k.toArray true).wpIn (Fence.wide.inRound l) n P Q a w := by
  simp only [Region.lexB, Bool.and_eq_true] at hB
  refine Code.wpIn_mono NoOut.imp (wpIn_region_any hm (wpAnyIn_of (noDefer_spec hd) NoOut.lets _ _ _ _ ?_))
  refine wpAny_of_quiet (C := fun w' => ∃ n, w' = w.drewN n) (Q := fun a' => ∀ w', (∃ n, w' = w.drewN n) → NoOut Q .normal a' w') (fun _ w' hw' h => h w' hw') _ _ _ _ ⟨1, rfl⟩ ?_
  have := wpAnyQ_lex (C := fun w' => ∃ n, w' = w.drewN n) (md := .any) hB.1 k.toArray.toList 0 (Array.replicate k.toArray.size false) a (by simp) (by simpa using hB.2) (by simpa using h)
  simpa using this
end
theorem keepsOthers_of_below {W W' : World} (h : Below W.heap.size W W') : KeepsOthers W W' :=
  ⟨h.size, fun k o hk _ => (h.block k (Array.getElem?_eq_some_iff.1 hk).1).trans hk⟩
theorem min_if (x y : Int) : min x y = if y < x then y else x := by simp only [Int.min_def]; split <;> split <;> omega
end Go.Proofs.YteodljaphkpimaaDoor
