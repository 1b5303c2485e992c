/- Walks over package alert: the iterator over all stretches. -/
import Derived.RangeFuncNested
import Derived.RangeFuncBound
import Derived.RangeFuncCalls
import Derived.RangeFuncLeaves
import Derived.Shelf.Abstract
import Derived.Shelf.RegionOpen
import Derived.WalkKit
import Derived.OwnWalkIn
import Derived.TacticsInMore
import Derived.LoopNIn
import Derived.LoopIn
import Derived.Test.YtdafiblnanpiiaaAlB
import Derived.Test.YtdafiblnanpiiaaAlStr
namespace Go.Proofs.Ytdafiblnanpiiaa
set_option linter.unusedVariables false
open Go.RowKit Go.Shelf
attribute [local go_sem] Oper.semAt_some

abbrev encP (x : Int × Int) : Array Value := #[.int .i64 x.1, .int .i64 x.2]

set_option maxRecDepth 100000 in
set_option maxHeartbeats 2000000 in
theorem stretches_raw (F : Fence) (n : Nat) (h6 : F.fn 61) (hro : F.round = none) (hn : 1 ≤ n) (l : Nat) (J Jx : List (Int × Int) → World → Prop)
    (hY : ∀ pre x W, J pre W → pre.length < 10001 → x ∈ strAll → YieldAt F (n - 1) Try.prog l (encP x) W fun e W' => (e = .returned (.bool true) ∧ J (pre ++ [x]) W') ∨ (e = .returned (.bool false) ∧ Jx (pre ++ [x]) W'))
    (W : World) (h0 : J [] W) :
    CallsIn F n Try.prog 61 #[.func (.yield l) #[] #[]] W fun e W' => (∃ v, e = .returned v) ∧ ((∃ xs, xs = strAll ∧ J xs W') ∨ (∃ pre, pre <+: strAll ∧ Jx pre W')) := by
  have HY := Lib.hid hY; clear hY
  refine callsIn_of_wp Try.func61 rfl h6 ?_ hro
  simp only [Try.ntmps61, List.size_toArray, List.length_cons, List.length_nil, Nat.reduceAdd, Nat.reduceSub, Array.replicate_succ, Array.replicate_zero, List.push_toArray, List.append_toArray, List.nil_append, List.cons_append]
  gi_wp2
  gi_loopw [4] (fun i wr => ∃ a : Nat, a ≤ 100 ∧ i = .int .i64 a ∧ J (strUp a) wr) (fun i _ => 100 - (intOf i).toNat)
  case atStart => exact ⟨0, by omega, rfl, h0⟩
  case round =>
    obtain ⟨a, ha, rfl, hJ⟩ := hrel
    by_cases hlt : a < 100
    · obtain ⟨wo, rfl⟩ : ∃ wo : World, wo = wr := ⟨_, rfl⟩
      have hd : decide ((a : Int) < 100) = true := by rw [decide_eq_true_eq]; omega
      gi_wp2
      gi_loopw [3] (fun i wr => ∃ b : Nat, a + 1 ≤ b ∧ b ≤ 101 ∧ i = .int .i64 b ∧ J (strUp a ++ strRow a b) wr) (fun i _ => 101 - (intOf i).toNat)
      case atStart => exact ⟨a + 1, by omega, by omega, by go_num, by rw [strRow_zero, List.append_nil]; exact hJ⟩
      case round =>
        obtain ⟨b, hb1, hb2, rfl, hJ2⟩ := hrel
        by_cases hlb : b < 101
        · obtain ⟨fn, tmps, assign, body, hy, hR⟩ := HY.out _ ((a : Int), (b : Int)) wr hJ2 (strPart_length hlt hb2) (mem_strAll.2 (by omega))
          dsimp only [encP] at hy
          have hbb : b ≤ 100 := by omega
          gi_wp2
          refine hR.mono ?_
          rintro e W3 (⟨rfl, hJ3⟩ | ⟨rfl, hJx3⟩)
          · gi_wp2
            go_roundw
            case rel => exact ⟨b + 1, by omega, by omega, by go_num, by rw [strRow_succ hb1, ← List.append_assoc]; exact hJ3⟩
            case measure => simp [intOf]; omega
          · gi_wp2
            refine bodyPost_ret (results_none rfl _ _ _) rfl ?_
            exact ⟨⟨_, rfl⟩, .inr ⟨_, by rw [List.append_assoc, ← strRow_succ hb1]; exact strPart_pre hlt (by omega), hJx3⟩⟩
        · obtain rfl : b = 101 := by omega
          gi_wp2
          go_roundw
          case rel => exact ⟨a + 1, by omega, by go_num, hJ2⟩
          case measure => simp [intOf]; omega
    · obtain rfl : a = 100 := by omega
      gi_wp2
      go_end0
      exact ⟨⟨_, rfl⟩, .inl ⟨_, strAll_eq, hJ⟩⟩

/-- a stretch -/
abbrev Str := { x : Int × Int // x ∈ strAll }
theorem Str.bd (x : Str) : 0 ≤ x.1.1 ∧ x.1.1 < x.1.2 ∧ x.1.2 ≤ 100 := mem_strAll.1 x.2
theorem stretches_stops (F : Fence) (n : Nat) (h6 : F.fn 61) (hro : F.round = none) (hn : 1 ≤ n) (w : World) :
    SeqStopsK F n Try.prog 61 #[] (fun x : Str => encP x.1) (fun _ _ => True) (fun xs => xs.map (·.1) = strAll) (fun pre => pre.map (·.1) <+: strAll) 10001 w := fun l J Jx W _ _ _ hY h0 => by
  refine (stretches_raw F n h6 hro hn l (fun pre W => ∃ pre' : List Str, pre'.map (·.1) = pre ∧ J pre' W) (fun pre W => ∃ pre' : List Str, pre'.map (·.1) = pre ∧ Jx pre' W) (fun pre x W1 hJ hl hx => ?_) W ⟨[], rfl, h0⟩).mono ?_
  · obtain ⟨pre', rfl, hJ'⟩ := hJ
    refine (hY pre' ⟨x, hx⟩ W1 hJ' (by simpa using hl)).mono ?_
    rintro e W' (⟨h1, h2, _⟩ | ⟨h1, h2⟩)
    · exact .inl ⟨h1, _, by simp, h2⟩
    · exact .inr ⟨h1, _, by simp, h2⟩
  · rintro e W' ⟨h1, ⟨xs, hx, xs', h2, h3⟩ | ⟨pre, hp, xs', h2, h3⟩⟩
    · exact ⟨h1, .inl ⟨xs', h2.trans hx, h3⟩⟩
    · exact ⟨h1, .inr ⟨xs', by show xs'.map (·.1) <+: strAll; rw [h2]; exact hp, h3⟩⟩
end Go.Proofs.Ytdafiblnanpiiaa
