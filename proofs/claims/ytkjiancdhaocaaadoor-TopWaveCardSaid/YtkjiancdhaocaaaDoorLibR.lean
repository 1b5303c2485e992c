/- LibR LibBk LibE -/
import Derived.RangeFuncNested
import Derived.RangeFuncBound
import Derived.RangeFuncCalls
import Derived.RangeFuncLeaves
import Derived.Shelf.Abstract
import Derived.Shelf.RegionOpen
import Derived.WalkKit
import Derived.OwnWalkIn
import Derived.TacticsInMore
import Derived.LoopNIn
import Derived.LoopIn
import Derived.Deep.RegionHeld3
import Derived.Deep.QuietTactic
import Derived.Test.YtkjiancdhaocaaaDoorLib
import Derived.Test.YtkjiancdhaocaaaDoorLibQ
import Derived.Test.YtkjiancdhaocaaaDoorProg
/- Plain lemmas: a region that draws its order, in the round of a range over a function, by the laws outside a round. -/
namespace Go.Proofs.YtkjiancdhaocaaaDoor
set_option linter.unusedVariables false
open Go.RowKit Go.Shelf

/-- Q, but 'False' where the machine is outgrown. -/
def NoOut (Q : Exit → Act → World → Prop) : Exit → Act → World → Prop
  | .outgrown, _, _ => False
  | e, a, w => Q e a w
theorem NoOut.imp {Q : Exit → Act → World → Prop} : ∀ (e : Exit) (a : Act) (w : World), NoOut Q e a w → Q e a w := fun e a w h => by
  cases e <;> first | exact h | exact (h : False).elim
theorem NoOut.lets {Q : Exit → Act → World → Prop} : ¬ LetsOut (NoOut Q) := fun ⟨_, _, h⟩ => h
theorem NoOut.normal {Q : Exit → Act → World → Prop} {a : Act} {w : World} (h : Q .normal a w) : NoOut Q .normal a w := h

def noDefer (ops : Array Oper) : Bool := ops.toList.all fun o => match o.op with | .defer _ => false | _ => true
theorem noDefer_spec {ops : Array Oper} (h : noDefer ops = true) : ∀ (i : Nat) (o : Oper), ops[i]? = some o → ∀ c, o.op ≠ Op.defer c := fun i o ho c hc => by
  unfold noDefer at h
  rw [List.all_eq_true] at h
  have := h o (by rw [← Array.mem_def]; exact Array.mem_of_getElem? ho)
  rw [hc] at this
  cases this

section
variable {l n : Nat} {P : Program} {ops : Array Oper} {md : Region.Mode}
theorem wpIn_of_wp {o : Oper} {a : Act} {w : World} {K : Act → World → Prop} {Q : Exit → Act → World → Prop} (hd : ∀ c, o.op ≠ .defer c) (h : o.wp P a w K Q) : o.wpIn (Fence.wide.inRound l) n P a w K Q := by
  refine ⟨fun _ _ => trivial, ?_⟩
  show o.uponIn _ n P a K Q ((o.semAt (some l) a.eval).run P w)
  rw [Oper.semAt_some l _ o hd]
  unfold Oper.wp at h
  generalize (execOp a.eval o).run P w = r at *
  cases r with
  | ok x w' =>
    cases x
    case enter f args =>
      refine ⟨fun hx => (by cases hx), ?_⟩
      refine CallsIn.inRound l (callsIn_wide.2 (Calls.mono h ?_))
      intro e w'' he
      cases e <;> exact he
    case row r args =>
      refine ⟨fun hx => (by cases hx), ?_⟩
      intro c cs _
      obtain ⟨v, w2, r, s⟩ := h c cs
      refine ⟨v, w2, r, ?_⟩
      show StepsIn (Machine.fenced P (Fence.wide.inRound l)) P _ _
      rw [fenced_inRound]
      exact stepsIn_wide.2 s
    all_goals first | exact h | exact h.elim
  | halt x w' => cases x <;> exact h
theorem wpAnyIn_of {Q : Exit → Act → World → Prop} (hd : ∀ (i : Nat) (o : Oper), ops[i]? = some o → ∀ c, o.op ≠ Op.defer c) (hQ : ¬ LetsOut Q) : ∀ (fuel : Nat) (listed : Array Bool) (a : Act) (w : World), wpAny P md ops Q fuel listed a w → wpAnyIn (Fence.wide.inRound l) n P md ops Q fuel listed a w
  | 0, _, _, _, h => h
  | fuel + 1, listed, a, w, h => by
    refine ⟨h.1, fun i hi => ?_⟩
    have h1 := h.2 i hi
    unfold wpOp at h1
    unfold wpOpIn
    cases ho : ops[i]? with
    | none => rw [ho] at h1; exact wpAnyIn_of hd hQ fuel _ _ _ h1
    | some o =>
      rw [ho] at h1
      simp only at h1 ⊢
      by_cases hw : Region.wanted o (yielded ops a.tmps) = true
      · rw [if_pos hw] at h1 ⊢
        rcases h1 with h1 | ⟨_, h1⟩
        · exact wpIn_of_wp (hd i o ho) (Oper.wp_mono (fun a w h => wpAnyIn_of hd hQ fuel _ _ _ h) h1)
        · exact absurd h1 hQ
      · rw [if_neg hw] at h1 ⊢
        exact ⟨fun _ _ => trivial, wpAnyIn_of hd hQ fuel _ _ _ h1⟩
/-- the beginning of a region in a round, by one condition on the world -/
theorem round_region_held {Q : Exit → Act → World → Prop} {S : World → Prop} {id : Nat} {a : Act} {w : World} (hm : P.follows .mixedOrders = true) (hd : noDefer ops = true) (hS : S w.drew)
    (h : S w.drew → wpAnyH P .any ops (NoOut Q) S ops.size (Array.replicate ops.size false) a w.drew) : (Code.region id ops true).wpIn (Fence.wide.inRound l) n P Q a w :=
  Code.wpIn_mono NoOut.imp (wpIn_region_any hm (wpAnyIn_of (noDefer_spec hd) NoOut.lets _ _ _ _ (wpAny_of_held _ _ _ _ (h hS))))
/-- the same, for a region that reads and calls quietly alone -/
theorem round_region_quiet {Q : Exit → Act → World → Prop} {id : Nat} {a : Act} {w : World} {k : List Oper} (hm : P.follows .mixedOrders = true) (hd : noDefer k.toArray = true) (hB : Region.lexB .any k.toArray = true)
    (h : wpQuiet P k.toArray (fun w' => ∃ n, w' = w.drewN n) (fun a' => ∀ w', (∃ n, w' = w.drewN n) → NoOut Q .normal a' w') k a) : (Code.region id k.toArray true).wpIn (Fence.wide.inRound l) n P Q a w := by
  simp only [Region.lexB, Bool.and_eq_true] at hB
  refine Code.wpIn_mono NoOut.imp (wpIn_region_any hm (wpAnyIn_of (noDefer_spec hd) NoOut.lets _ _ _ _ ?_))
  refine wpAny_of_quiet (C := fun w' => ∃ n, w' = w.drewN n) (Q := fun a' => ∀ w', (∃ n, w' = w.drewN n) → NoOut Q .normal a' w') (fun _ w' hw' h => h w' hw') _ _ _ _ ⟨1, rfl⟩ ?_
  have := wpAnyQ_lex (C := fun w' => ∃ n, w' = w.drewN n) (md := .any) hB.1 k.toArray.toList 0 (Array.replicate k.toArray.size false) a (by simp) (by simpa using hB.2) (by simpa using h)
  simpa using this
end
theorem keepsOthers_of_below {W W' : World} (h : Below W.heap.size W W') : KeepsOthers W W' :=
  ⟨h.size, fun k o hk _ => (h.block k (Array.getElem?_eq_some_iff.1 hk).1).trans hk⟩
theorem min_if (x y : Int) : min x y = if y < x then y else x := by simp only [Int.min_def]; split <;> split <;> omega
end Go.Proofs.YtkjiancdhaocaaaDoor

/- A walk over the library's slices.Backward: its iterator yields each index and integer, from the last one back. -/
namespace Go.Proofs.YtkjiancdhaocaaaDoor
open Go.RowKit Go.Shelf
set_option linter.unusedSimpArgs false
set_option linter.unusedVariables false
attribute [local go_sem] Oper.semAt_some

abbrev encB (l : List Int) (m : Nat) : Array Value := #[.int .i64 m, .int .i64 (ix l m)]
/-- the first d of n indices, from the last one back -/
def dnl (n : Nat) : Nat → List Nat
  | 0 => []
  | d + 1 => dnl n d ++ [n - 1 - d]
theorem dnl_len (n d : Nat) : (dnl n d).length = d := by
  induction d with
  | zero => rfl
  | succ d ih => simp [dnl, ih]
theorem dnl_pre (n : Nat) {d e : Nat} (h : d ≤ e) : dnl n d <+: dnl n e := by
  induction e with
  | zero => obtain rfl : d = 0 := by omega
            exact List.prefix_rfl
  | succ e ih =>
    by_cases hd : d = e + 1
    · subst hd; exact List.prefix_rfl
    · exact (ih (by omega)).trans (List.prefix_append _ _)

set_option maxRecDepth 100000 in
set_option maxHeartbeats 2000000 in
theorem Back_raw (F : Fence) (k : Nat) (h6 : F.fn 56) (hro : F.round = none) (hk : 1 ≤ k) (l0 gB c : Nat) (A : Option Addr) (l : List Int) (hlen : l.length ≤ 1000) (J Jx : List Nat → World → Prop)
    (hJ : ∀ pre W, J pre W → W.cell? ⟨gB, 0, none⟩ = some (.slice A l.length c) ∧ RdI W W.heap.size A l)
    (hY : ∀ pre x W, J pre W → pre.length < l.length → x < l.length → YieldAt F (k - 1) Tryd.prog l0 (encB l x) W fun e W' => (e = .returned (.bool true) ∧ J (pre ++ [x]) W') ∨ (e = .returned (.bool false) ∧ Jx (pre ++ [x]) W'))
    (W : World) (h0 : J [] W) :
    CallsIn F k Tryd.prog 56 #[.func (.yield l0) #[] #[], .pointer (some ⟨gB, 0, none⟩)] W fun e W' => (∃ v, e = .returned v) ∧ ((∃ xs, xs = dnl l.length l.length ∧ J xs W') ∨ (∃ pre, pre <+: dnl l.length l.length ∧ Jx pre W')) := by
  have HY := Lib.hid hY; clear hY
  have HJ := Lib.hid hJ; clear hJ
  have hc0 := (HJ.out _ _ h0).1
  have H0 := Lib.hid h0
  clear h0
  generalize hn : l.length = n at *
  have HN := Lib.hid hn; clear hn
  refine callsIn_of_wp Tryd.func56 rfl h6 ?_ hro
  simp only [Tryd.ntmps56, List.size_toArray, List.length_cons, List.length_nil, Nat.reduceAdd, Nat.reduceSub, Array.replicate_succ, Array.replicate_zero, List.push_toArray, List.append_toArray, List.nil_append, List.cons_append]
  gi_wp2
  gi_loopw [3] (fun i wr => ∃ d : Nat, d ≤ n ∧ i = .int .i64 ((n : Int) - 1 - d) ∧ J (dnl n d) wr) (fun i _ => (intOf i + 1).toNat)
  case atStart => exact ⟨0, by omega, by go_num, H0.out⟩
  case round =>
    obtain ⟨d, hd, rfl, hJd⟩ := hrel
    obtain ⟨hc, hr⟩ := HJ.out _ _ hJd
    obtain ⟨II, hII⟩ : ∃ II : Int, II = (n : Int) - 1 - d := ⟨_, rfl⟩
    rw [← hII]
    by_cases hlt : d < n
    · obtain ⟨m, hm⟩ : ∃ m : Nat, m = n - 1 - d := ⟨_, rfl⟩
      have hmn : m < n := by omega
      obtain ⟨b, o, rfl, hb, d1⟩ := hr.at_ (k := m) (by rw [HN.out]; exact hmn)
      have HJd := Lib.hid hJd
      have hI0 : 0 ≤ II := by omega
      have hIn : II < (n : Int) := by omega
      have hIm : II.toNat = m := by omega
      have hI1 : -1 ≤ II - 1 := by omega
      have hde : decide (0 ≤ II) = true := by rw [decide_eq_true_eq]; exact hI0
      obtain ⟨fn, tmps, assign, body, hy, hR⟩ := HY.out _ m wr hJd (by rw [dnl_len]; exact hlt) hmn
      have eII : (m : Int) = II := by omega
      dsimp only [encB] at hy
      rw [eII] at hy
      have HI := Lib.hid hII
      have HM := Lib.hid hm
      clear hJd hr hII hm eII
      gi_wp2
      refine hR.mono ?_
      rintro e W3 (⟨rfl, hJ3⟩ | ⟨rfl, hJx3⟩)
      · gi_wp2
        go_roundw
        case rel => exact ⟨d + 1, by omega, by rw [HI.out]; go_num, by rw [show dnl n (d + 1) = dnl n d ++ [m] by rw [HM.out]; rfl]; exact hJ3⟩
        case measure => simp [intOf]; omega
      · gi_wp2
        refine bodyPost_ret (results_none rfl _ _ _) rfl ?_
        exact ⟨⟨_, rfl⟩, .inr ⟨_, by rw [show dnl n d ++ [m] = dnl n (d + 1) by rw [HM.out]; rfl]; exact dnl_pre n hlt, hJx3⟩⟩
    · obtain rfl : d = n := by omega
      have hI0 : II = -1 := by omega
      have hde : decide (0 ≤ II) = false := by rw [decide_eq_false_iff_not]; omega
      clear hII hI0
      gi_wp2
      go_end0
      exact ⟨⟨_, rfl⟩, .inl ⟨_, rfl, hJd⟩⟩

/-- what a round must keep: the blocks gs -/
def KpC (gs : List Nat) (W W' : World) : Prop := W.heap.size ≤ W'.heap.size ∧ ∀ g ∈ gs, ∀ o, W'.cell? ⟨g, o, none⟩ = W.cell? ⟨g, o, none⟩
theorem KpC.trans {gs : List Nat} {A B C : World} (h : KpC gs A B) (k : KpC gs B C) : KpC gs A C := ⟨Nat.le_trans h.1 k.1, fun g hg o => (k.2 g hg o).trans (h.2 g hg o)⟩
theorem KpC.of_below {gs : List Nat} {W W' : World} {B : Nat} (h : Below B W W') (hg : ∀ g ∈ gs, g < B) : KpC gs W W' := ⟨h.size, fun g hg2 o => h.cell (p := ⟨g, o, none⟩) (hg g hg2)⟩
theorem KpC.books {gs : List Nat} {w : World} (hg : ∀ g ∈ gs, g < w.heap.size) (W : World) (l : Nat) (o o' : Obj) (hl : w.heap.size ≤ l) (h : W.heap[l]? = some o) (h1 : o.isCells = false) (h2 : o.isWalk = false) : KpC gs W (W.putObj l o') :=
  KpC.of_below (belowK_b (w := w) (Nat.le_refl _) W l o o' hl h h1 h2) hg

abbrev Sub (n : Nat) := { m : Nat // m < n }
theorem Back_stops (F : Fence) (k : Nat) (h6 : F.fn 56) (hro : F.round = none) (hk : 1 ≤ k) (gB gP o c : Nat) (l : List Int) (hlen : l.length ≤ 1000) (w : World)
    (hB : gB < w.heap.size) (hc : w.cell? ⟨gB, 0, none⟩ = some (.slice (some ⟨gP, o, none⟩) l.length c)) (hr : RdI w w.heap.size (some ⟨gP, o, none⟩) l) (hP : gP < w.heap.size) :
    SeqStopsK F k Tryd.prog 56 #[.pointer (some ⟨gB, 0, none⟩)] (fun x : Sub l.length => encB l x.1) (KpC [gB, gP]) (fun xs => xs.map (·.1) = dnl l.length l.length) (fun pre => pre.map (·.1) <+: dnl l.length l.length) l.length w := fun l0 J Jx W hW _ _ hY h0 => by
  have RD : ∀ W1 : World, KpC [gB, gP] w W1 → W1.cell? ⟨gB, 0, none⟩ = some (.slice (some ⟨gP, o, none⟩) l.length c) ∧ RdI W1 W1.heap.size (some ⟨gP, o, none⟩) l := fun W1 h => by
    refine ⟨(h.2 gB (by simp) 0).trans hc, ?_⟩
    rcases hr with h1 | ⟨b, o', e, h2, h3⟩
    · exact .inl h1
    · refine .inr ⟨b, o', e, Nat.lt_of_lt_of_le h2 h.1, fun j hj => ?_⟩
      injection e with e; injection e with e1 e2
      subst e1
      exact (h.2 gP (by simp) _).trans (h3 j hj)
  have h00 : KpC [gB, gP] w W := KpC.of_below hW (by simp; omega)
  refine (Back_raw F k h6 hro hk l0 gB c _ l hlen (fun pre W => (∃ pre' : List (Sub l.length), pre'.map (·.1) = pre ∧ J pre' W) ∧ KpC [gB, gP] w W) (fun pre W => ∃ pre' : List (Sub l.length), pre'.map (·.1) = pre ∧ Jx pre' W) (fun pre W1 h => RD W1 h.2) (fun pre x W1 hJ hl hx => ?_) W ⟨⟨[], rfl, h0⟩, h00⟩).mono ?_
  · obtain ⟨⟨pre', rfl, hJ'⟩, hK⟩ := hJ
    refine (hY pre' ⟨x, hx⟩ W1 hJ' (by simpa using hl)).mono ?_
    rintro e W' (⟨h1, h2, h3⟩ | ⟨h1, h2⟩)
    · exact .inl ⟨h1, ⟨_, by simp, h2⟩, hK.trans h3⟩
    · exact .inr ⟨h1, _, by simp, h2⟩
  · rintro e W' ⟨h1, ⟨xs, hx, ⟨xs', h2, h3⟩, _⟩ | ⟨pre, hp, xs', h2, h3⟩⟩
    · exact ⟨h1, .inl ⟨xs', h2.trans hx, h3⟩⟩
    · exact ⟨h1, .inr ⟨xs', by show xs'.map (·.1) <+: _; rw [h2]; exact hp, h3⟩⟩

theorem Backward_any (A : Option Addr) (n c : Nat) (w : World) :
    Calls Tryd.prog 42 #[.slice A n c] w fun e w' => e = .returned (.func (.func 56) #[] #[.pointer (some ⟨w.heap.size, 0, none⟩)]) ∧ w' = w.alloc (.cells #[.slice A n c] 22) := by
  go_enter Tryd.func42, Tryd.ntmps42
  go_wp2
  go_ret
  exact ⟨rfl, rfl⟩
end Go.Proofs.YtkjiancdhaocaaaDoor

/- A region that draws its order and ends in a store: what the region reads holds behind every operation but the last one. -/
namespace Go.Proofs.YtkjiancdhaocaaaDoor
set_option linter.unusedVariables false
open Go.RowKit Go.Shelf
section
variable {P : Program} {ops : Array Oper} {Q : Exit → Act → World → Prop} {md : Region.Mode} {S : World → Prop} {last : Nat}
/-- whichever order: S behind each operation but `last` -/
def Ord (P : Program) (md : Region.Mode) (ops : Array Oper) (Q : Exit → Act → World → Prop) (S : World → Prop) (last : Nat) : Nat → Array Bool → Act → World → Prop
  | 0, done, a, w => Region.ready md ops done = [] ∧ Q .normal a w
  | k + 1, done, a, w => (Region.ready md ops done = [] → Q .normal a w) ∧ ∀ i ∈ Region.ready md ops done, wpOp P ops Q i (fun a' w' => (i ≠ last → S w') ∧ Ord P md ops Q S last k (done.setIfInBounds i true) a' w') a w
theorem Ord.any : ∀ (k : Nat) (done : Array Bool) (a : Act) (w : World), Ord P md ops Q S last k done a w → wpAny P md ops Q k done a w
  | 0, _, _, _, h => h
  | k + 1, _, _, _, h => ⟨h.1, fun i hi => wpOp_mono (fun a' w' h' => Ord.any k _ a' w' h'.2) (h.2 i hi)⟩
/-- the last one waits for number i -/
def waitsFor (md : Region.Mode) (ops : Array Oper) (last i : Nat) : Bool := match ops[last]? with
  | none => false
  | some o => o.after.toList.any fun e => Region.binds md e && e.on == i
theorem waitsFor.not_ready {i : Nat} {done : Array Bool} (h : waitsFor md ops last i = true) (hi : i ∈ Region.ready md ops done) : last ∉ Region.ready md ops done := fun hl => by
  obtain ⟨-, o, ho, hall⟩ := mem_ready.1 hl
  unfold waitsFor at h
  simp only [ho, List.any_eq_true, Bool.and_eq_true, beq_iff_eq] at h
  obtain ⟨e, he, hb, rfl⟩ := h
  have h1 := hall e (Array.mem_def.2 he) hb
  have h0 := (mem_ready.1 hi).1
  rcases Nat.lt_or_ge e.on done.size with h' | h'
  · simp [h'] at h0 h1; rw [h0] at h1; cases h1
  · simp [Array.getElem?_eq_none h'] at h1
theorem Ord.first {i : Nat} {oi : Oper} {v : Value} (hi : ops[i]? = some oi) (hsel : Region.noSelect ops = true) (hw : waitsFor md ops last i = true)
    (hQ : ∀ c a w, Q (.panic c) (a.put oi.dst v) w → Q (.panic c) a w) : ∀ (k : Nat) (done : Array Bool) (a : Act) (w : World),
      (∀ j oj, ops[j]? = some oj → j ≠ i → done.getD j true = false → (∀ e ∈ oj.after, Region.binds md e = true → e.on ≠ i) → oi.apart ops oj = true) →
      i ∈ Region.ready md ops done → YieldsIf P ops S oi v a → S w → Ord P md ops Q S last k (done.setIfInBounds i true) (a.put oi.dst v) w → Ord P md ops Q S last (k + 1) done a w
  | 0, done, a, w, _, hr, hy, hS, H => ⟨fun h => (by rw [h] at hr; cases hr), fun j hj => by
      by_cases e : j = i
      · subst e; exact hy.wpOp hi hS ⟨fun _ => hS, H⟩
      · have := ready_mono hj e
        rw [H.1] at this
        cases this⟩
  | k + 1, done, a, w, hf, hr, hy, hS, H => ⟨fun h => (by rw [h] at hr; cases hr), fun j hj => by
      by_cases e : j = i
      · subst e; exact hy.wpOp hi hS ⟨fun _ => hS, H⟩
      · have hl : j ≠ last := fun e => waitsFor.not_ready hw hr (e ▸ hj)
        obtain ⟨hun, oj, hoj, hall⟩ := mem_ready.1 hj
        have hno : ∀ e ∈ oj.after, Region.binds md e = true → e.on ≠ i := fun e he hb heq => by
          have h1 := hall e he hb
          have h0 := (mem_ready.1 hr).1
          rw [heq] at h1
          rcases Nat.lt_or_ge i done.size with h' | h'
          · simp [h'] at h0 h1; rw [h0] at h1; cases h1
          · simp [Array.getElem?_eq_none h'] at h1
        refine wpOp_mono (fun a' w' h3 => ⟨fun _ => h3.2.1 hl, Ord.first hi hsel hw hQ k (done.setIfInBounds j true) a' w' ?_ (ready_mono hr (Ne.symm e)) h3.1 (h3.2.1 hl) ?_⟩)
          (wpOp_putIf hoj (hf j oj hoj e hun hno) (fun cs b => Region.noSelect_spec hsel i oi cs b hi) (fun cs b => Region.noSelect_spec hsel j oj cs b hoj) hQ hy (H.2 j (ready_mono hj e)))
        · intro m om hm hmi hum hnm
          refine hf m om hm hmi ?_ hnm
          by_cases hjm : j = m
          · subst hjm; exact hun
          · rw [getD_set_ne true hjm] at hum; exact hum
        · rw [Array.setIfInBounds_comm _ _ e]
          exact h3.2.2⟩
theorem Ord.take {i : Nat} {oi : Oper} {v : Value} {k : Nat} {done : Array Bool} {a : Act} {w : World} (hi : ops[i]? = some oi) (hs : Region.noSelect ops = true) (hw : waitsFor md ops last i = true)
    (hf : Region.free md ops done i = true) (hr : (Region.ready md ops done).contains i = true) (hQ : ∀ c a w, Q (.panic c) (a.put oi.dst v) w → Q (.panic c) a w) (hy : YieldsIf P ops S oi v a) (hS : S w)
    (h : Ord P md ops Q S last k (done.setIfInBounds i true) (a.put oi.dst v) w) : Ord P md ops Q S last (k + 1) done a w :=
  Ord.first hi hs hw hQ k done a w (Region.free_spec hi hf) (by simpa using hr) hy hS h
theorem Ord.one {i : Nat} {k : Nat} {done : Array Bool} {a : Act} {w : World} {o : Oper} (hr : Region.ready md ops done = [i]) (ho : ops[i]? = some o)
    (h : ∀ K' : Act → World → Prop, Shut (∀ a w, (i ≠ last → S w) → ((i ≠ last → S w) → Ord P md ops Q S last k (done.setIfInBounds i true) a w) → K' a w) → if Region.wanted o (yielded ops a.tmps) = true then Oper.wp P o a w K' Q else K' (a.put o.dst undef) w) :
    Ord P md ops Q S last (k + 1) done a w :=
  ⟨fun h0 => (by rw [h0] at hr; cases hr), fun j hj => by
    rw [hr] at hj
    obtain rfl : j = i := by simpa using hj
    exact wpOp_step ho (fun K' hK => h K' (fun a w hS hW => hK a w ⟨hS, hW hS⟩))⟩
theorem Ord.done {done : Array Bool} {a : Act} {w : World} (hr : Region.ready md ops done = []) (h : Q .normal a w) : ∀ k, Ord P md ops Q S last k done a w
  | 0 => ⟨hr, h⟩
  | _ + 1 => ⟨fun _ => h, by rw [hr]; simp⟩
theorem round_region_ord {l n : Nat} {Q : Exit → Act → World → Prop} {id : Nat} {a : Act} {w : World} (S : World → Prop) (last : Nat) (hm : P.follows .mixedOrders = true) (hd : noDefer ops = true)
    (h : Ord P .any ops (NoOut Q) S last ops.size (Array.replicate ops.size false) a w.drew) : (Code.region id ops true).wpIn (Fence.wide.inRound l) n P Q a w :=
  Code.wpIn_mono NoOut.imp (wpIn_region_any hm (wpAnyIn_of (noDefer_spec hd) NoOut.lets _ _ _ _ (Ord.any _ _ _ _ h)))
end
end Go.Proofs.YtkjiancdhaocaaaDoor
