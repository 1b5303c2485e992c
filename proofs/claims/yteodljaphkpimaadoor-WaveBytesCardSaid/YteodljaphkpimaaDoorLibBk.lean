/- A walk over the library's slices.Backward: its iterator yields each index and integer, from the last one back. -/
import Derived.RangeFuncNested
import Derived.RangeFuncBound
import Derived.RangeFuncCalls
import Derived.RangeFuncLeaves
import Derived.Shelf.Abstract
import Derived.Shelf.RegionOpen
import Derived.WalkKit
import Derived.OwnWalkIn
import Derived.TacticsInMore
import Derived.LoopNIn
import Derived.LoopIn
import Derived.Test.YteodljaphkpimaaDoorLibR
import Derived.Test.YteodljaphkpimaaDoorLibQ
import Derived.Test.YteodljaphkpimaaDoorProg
namespace Go.Proofs.YteodljaphkpimaaDoor
open Go.RowKit Go.Shelf
set_option linter.unusedSimpArgs false
set_option linter.unusedVariables false
attribute [local go_sem] Oper.semAt_some

abbrev encB (l : List Int) (m : Nat) : Array Value := #[.int .i64 m, .int .i64 (ix l m)]
/-- the first d of n indices, from the last one back -/
def dnl (n : Nat) : Nat → List Nat
  | 0 => []
  | d + 1 => dnl n d ++ [n - 1 - d]
theorem dnl_len (n d : Nat) : (dnl n d).length = d := by
  induction d with
  | zero => rfl
  | succ d ih => simp [dnl, ih]
theorem dnl_pre (n : Nat) {d e : Nat} (h : d ≤ e) : dnl n d <+: dnl n e := by
  induction e with
  | zero => obtain rfl : d = 0 := by omega
            exact List.prefix_rfl
  | succ e ih =>
    by_cases hd : d = e + 1
    · subst hd; exact List.prefix_rfl
    · exact (ih (by omega)).trans (List.prefix_append _ _)

set_option maxRecDepth 100000 in
set_option maxHeartbeats 2000000 in
theorem Back_raw (F : Fence) (k : Nat) (h6 : F.fn 105) (hro : F.round = none) (hk : 1 ≤ k) (l0 gB c : Nat) (A : Option Addr) (l : List Int) (hlen : l.length ≤ 1000) (J Jx : List Nat → World → Prop)
    (hJ : ∀ pre W, J pre W → W.cell? ⟨gB, 0, none⟩ = some (.slice A l.length c) ∧ RdI W W.heap.size A l)
    (hY : ∀ pre x W, J pre W → pre.length < l.length → x < l.length → YieldAt F (k - 1) Tryd.prog l0 (encB l x) W fun e W' => (e = .returned (.bool true) ∧ J (pre ++ [x]) W') ∨ (e = .returned (.bool false) ∧ Jx (pre ++ [x]) W'))
    (W : World) (h0 : J [] W) :
    CallsIn F k Tryd.prog 105 #[.func (.yield l0) #[] #[], .pointer (some ⟨gB, 0, none⟩)] W fun e W' => (∃ v, e = .returned v) ∧ ((∃ xs, xs = dnl l.length l.length ∧ J xs W') ∨ (∃ pre, pre <+: dnl l.length l.length ∧ Jx pre W')) := by
  have HY := Lib.hid hY; clear hY
  have HJ := Lib.hid hJ; clear hJ
  have hc0 := (HJ.out _ _ h0).1
  have H0 := Lib.hid h0
  clear h0
  generalize hn : l.length = n at *
  have HN := Lib.hid hn; clear hn
  refine callsIn_of_wp Tryd.func105 rfl h6 ?_ hro
  simp only [Tryd.ntmps105, List.size_toArray, List.length_cons, List.length_nil, Nat.reduceAdd, Nat.reduceSub, Array.replicate_succ, Array.replicate_zero, List.push_toArray, List.append_toArray, List.nil_append, List.cons_append]
  gi_wp2
  gi_loopw [3] (fun i wr => ∃ d : Nat, d ≤ n ∧ i = .int .i64 ((n : Int) - 1 - d) ∧ J (dnl n d) wr) (fun i _ => (intOf i + 1).toNat)
  case atStart => exact ⟨0, by omega, by go_num, H0.out⟩
  case round =>
    obtain ⟨d, hd, rfl, hJd⟩ := hrel
    obtain ⟨hc, hr⟩ := HJ.out _ _ hJd
    obtain ⟨II, hII⟩ : ∃ II : Int, II = (n : Int) - 1 - d := ⟨_, rfl⟩
    rw [← hII]
    by_cases hlt : d < n
    · obtain ⟨m, hm⟩ : ∃ m : Nat, m = n - 1 - d := ⟨_, rfl⟩
      have hmn : m < n := by omega
      obtain ⟨b, o, rfl, hb, d1⟩ := hr.at_ (k := m) (by rw [HN.out]; exact hmn)
      have HJd := Lib.hid hJd
      have hI0 : 0 ≤ II := by omega
      have hIn : II < (n : Int) := by omega
      have hIm : II.toNat = m := by omega
      have hI1 : -1 ≤ II - 1 := by omega
      have hde : decide (0 ≤ II) = true := by rw [decide_eq_true_eq]; exact hI0
      obtain ⟨fn, tmps, assign, body, hy, hR⟩ := HY.out _ m wr hJd (by rw [dnl_len]; exact hlt) hmn
      have eII : (m : Int) = II := by omega
      dsimp only [encB] at hy
      rw [eII] at hy
      have HI := Lib.hid hII
      have HM := Lib.hid hm
      clear hJd hr hII hm eII
      gi_wp2
      refine hR.mono ?_
      rintro e W3 (⟨rfl, hJ3⟩ | ⟨rfl, hJx3⟩)
      · gi_wp2
        go_roundw
        case rel => exact ⟨d + 1, by omega, by rw [HI.out]; go_num, by rw [show dnl n (d + 1) = dnl n d ++ [m] by rw [HM.out]; rfl]; exact hJ3⟩
        case measure => simp [intOf]; omega
      · gi_wp2
        refine bodyPost_ret (results_none rfl _ _ _) rfl ?_
        exact ⟨⟨_, rfl⟩, .inr ⟨_, by rw [show dnl n d ++ [m] = dnl n (d + 1) by rw [HM.out]; rfl]; exact dnl_pre n hlt, hJx3⟩⟩
    · obtain rfl : d = n := by omega
      have hI0 : II = -1 := by omega
      have hde : decide (0 ≤ II) = false := by rw [decide_eq_false_iff_not]; omega
      clear hII hI0
      gi_wp2
      go_end0
      exact ⟨⟨_, rfl⟩, .inl ⟨_, rfl, hJd⟩⟩

/-- what a round must keep: the blocks gs -/
def KpC (gs : List Nat) (W W' : World) : Prop := W.heap.size ≤ W'.heap.size ∧ ∀ g ∈ gs, ∀ o, W'.cell? ⟨g, o, none⟩ = W.cell? ⟨g, o, none⟩
theorem KpC.trans {gs : List Nat} {A B C : World} (h : KpC gs A B) (k : KpC gs B C) : KpC gs A C := ⟨Nat.le_trans h.1 k.1, fun g hg o => (k.2 g hg o).trans (h.2 g hg o)⟩
theorem KpC.of_below {gs : List Nat} {W W' : World} {B : Nat} (h : Below B W W') (hg : ∀ g ∈ gs, g < B) : KpC gs W W' := ⟨h.size, fun g hg2 o => h.cell (p := ⟨g, o, none⟩) (hg g hg2)⟩
theorem KpC.books {gs : List Nat} {w : World} (hg : ∀ g ∈ gs, g < w.heap.size) (W : World) (l : Nat) (o o' : Obj) (hl : w.heap.size ≤ l) (h : W.heap[l]? = some o) (h1 : o.isCells = false) (h2 : o.isWalk = false) : KpC gs W (W.putObj l o') :=
  KpC.of_below (belowK_b (w := w) (Nat.le_refl _) W l o o' hl h h1 h2) hg

abbrev Sub (n : Nat) := { m : Nat // m < n }
theorem Back_stops (F : Fence) (k : Nat) (h6 : F.fn 105) (hro : F.round = none) (hk : 1 ≤ k) (gB gP o c : Nat) (l : List Int) (hlen : l.length ≤ 1000) (w : World)
    (hB : gB < w.heap.size) (hc : w.cell? ⟨gB, 0, none⟩ = some (.slice (some ⟨gP, o, none⟩) l.length c)) (hr : RdI w w.heap.size (some ⟨gP, o, none⟩) l) (hP : gP < w.heap.size) :
    SeqStopsK F k Tryd.prog 105 #[.pointer (some ⟨gB, 0, none⟩)] (fun x : Sub l.length => encB l x.1) (KpC [gB, gP]) (fun xs => xs.map (·.1) = dnl l.length l.length) (fun pre => pre.map (·.1) <+: dnl l.length l.length) l.length w := fun l0 J Jx W hW _ _ hY h0 => by
  have RD : ∀ W1 : World, KpC [gB, gP] w W1 → W1.cell? ⟨gB, 0, none⟩ = some (.slice (some ⟨gP, o, none⟩) l.length c) ∧ RdI W1 W1.heap.size (some ⟨gP, o, none⟩) l := fun W1 h => by
    refine ⟨(h.2 gB (by simp) 0).trans hc, ?_⟩
    rcases hr with h1 | ⟨b, o', e, h2, h3⟩
    · exact .inl h1
    · refine .inr ⟨b, o', e, Nat.lt_of_lt_of_le h2 h.1, fun j hj => ?_⟩
      injection e with e; injection e with e1 e2
      subst e1
      exact (h.2 gP (by simp) _).trans (h3 j hj)
  have h00 : KpC [gB, gP] w W := KpC.of_below hW (by simp; omega)
  refine (Back_raw F k h6 hro hk l0 gB c _ l hlen (fun pre W => (∃ pre' : List (Sub l.length), pre'.map (·.1) = pre ∧ J pre' W) ∧ KpC [gB, gP] w W) (fun pre W => ∃ pre' : List (Sub l.length), pre'.map (·.1) = pre ∧ Jx pre' W) (fun pre W1 h => RD W1 h.2) (fun pre x W1 hJ hl hx => ?_) W ⟨⟨[], rfl, h0⟩, h00⟩).mono ?_
  · obtain ⟨⟨pre', rfl, hJ'⟩, hK⟩ := hJ
    refine (hY pre' ⟨x, hx⟩ W1 hJ' (by simpa using hl)).mono ?_
    rintro e W' (⟨h1, h2, h3⟩ | ⟨h1, h2⟩)
    · exact .inl ⟨h1, ⟨_, by simp, h2⟩, hK.trans h3⟩
    · exact .inr ⟨h1, _, by simp, h2⟩
  · rintro e W' ⟨h1, ⟨xs, hx, ⟨xs', h2, h3⟩, _⟩ | ⟨pre, hp, xs', h2, h3⟩⟩
    · exact ⟨h1, .inl ⟨xs', h2.trans hx, h3⟩⟩
    · exact ⟨h1, .inr ⟨xs', by show xs'.map (·.1) <+: _; rw [h2]; exact hp, h3⟩⟩

theorem Backward_any (A : Option Addr) (n c : Nat) (w : World) :
    Calls Tryd.prog 96 #[.slice A n c] w fun e w' => e = .returned (.func (.func 105) #[] #[.pointer (some ⟨w.heap.size, 0, none⟩)]) ∧ w' = w.alloc (.cells #[.slice A n c] 22) := by
  go_enter Tryd.func96, Tryd.ntmps96
  go_wp2
  go_ret
  exact ⟨rfl, rfl⟩
end Go.Proofs.YteodljaphkpimaaDoor
