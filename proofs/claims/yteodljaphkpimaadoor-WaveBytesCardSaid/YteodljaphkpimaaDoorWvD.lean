/- Walks over package wave: changes of width, the better one of two texts, a text with some bits in front. -/
import Derived.Test.YteodljaphkpimaaDoorWvC
import Derived.StillTailTactics
import Derived.Deep.RegionHeld3
namespace Go.Proofs.YteodljaphkpimaaDoor
open Go.RowKit
set_option linter.unusedSimpArgs false
set_option linter.unusedVariables false

/-- a text as a value -/
def txV (l : Tx) : Value := .string ⟨l.toArray⟩
def chg (k : Nat) (up : Bool) : Tx := wordB (wid k) (-(hf (wid k))) ++ [if up then 49 else 48]
theorem ba_app (a b : Tx) : (⟨a.toArray⟩ : ByteArray) ++ ⟨b.toArray⟩ = ⟨(a ++ b).toArray⟩ := by
  apply ByteArray.ext
  simp
set_option maxHeartbeats 1000000 in
theorem change_any (k : Nat) (up : Bool) (w : World) : Calls Tryd.prog 94 #[.int .i64 (wid k), .bool up] w fun e w' => e = .returned (.string ⟨(chg k up).toArray⟩) ∧ Below w.heap.size w w' := by
  have hok := wid_ok k
  have hh := hf_le hok
  have HH := Lib.hid (fun W => half_any (wid k) W hok)
  have HW := Lib.hid (fun W => word_any (wid k) (-(hf (wid k))) W (by rcases hok with h | h | h | h | h <;> omega) (by omega) (by omega))
  have hl : (wordB (wid k) (-(hf (wid k)))).length ≤ 11 := by rw [wordB_len]; rcases hok with h | h | h | h | h <;> omega
  have e1 : IntKind.i64.wrap (-(hf (wid k))) = -(hf (wid k)) := IntWalk.i64_in _ (by omega)
  have e2 : wrap64 (-(hf (wid k))) = -(hf (wid k)) := IntWalk.wrap64_in _ (by omega)
  unfold chg
  generalize wordB (wid k) (-(hf (wid k))) = W at *
  have hb : ¬ 9223372036854775807 < W.length + 1 := by omega
  have a1 : (⟨W.toArray⟩ : ByteArray) ++ ⟨#[49]⟩ = ⟨(W ++ [49]).toArray⟩ := ba_app W [49]
  have a0 : (⟨W.toArray⟩ : ByteArray) ++ ⟨#[48]⟩ = ⟨(W ++ [48]).toArray⟩ := ba_app W [48]
  clear hok hh hl
  generalize hf (wid k) = h at *
  generalize wid k = n at *
  cases up
  all_goals
    go_enter Tryd.func94, Tryd.ntmps94
    go_wp2_with (first
      | (go_at_call 58; refine (HH.out _).mono ?_; rintro e w' ⟨rfl, rfl⟩)
      | (go_at_call 59; refine (HW.out _).mono ?_; rintro e w1 ⟨rfl, h1⟩))
    go_ret
    exact ⟨by first | rfl | simp, h1⟩
/-- a text, or none, in memory -/
def PtrT (w : World) (v : Value) : Ot → Prop
  | none => v = .pointer none
  | some t => ∃ b, v = .pointer (some ⟨b, 0, none⟩) ∧ b < w.heap.size ∧ w.cell? ⟨b, 0, none⟩ = some (.string ⟨t.toArray⟩)
theorem PtrT.on {w w' : World} {v : Value} {t : Ot} (h : PtrT w v t) (hb : Below w.heap.size w w') : PtrT w' v t := by
  cases t with
  | none => exact h
  | some t =>
    obtain ⟨b, rfl, hl, hc⟩ := h
    exact ⟨b, rfl, Nat.lt_of_lt_of_le hl hb.size, (hb.cell (p := ⟨b, 0, none⟩) hl).trans hc⟩
set_option maxRecDepth 100000 in
set_option maxHeartbeats 2000000 in
theorem before_any (s : Tx) (v : Value) (t : Ot) (w : World) (hs : s.length ≤ 1000000000) (ht : ∀ x, t = some x → x.length ≤ 1000000000) (h : PtrT w v t) :
    Calls Tryd.prog 97 #[.string ⟨s.toArray⟩, v] w fun e w' => ∃ v', e = .returned v' ∧ PtrT w' v' (pre s t) ∧ Below w.heap.size w w' := by
  have hBl := below_alloc w (.cells #[.string ⟨s.toArray⟩] 9)
  have hbx := Box.new w 9 #[.string ⟨s.toArray⟩]
  cases t with
  | none =>
    obtain rfl : v = .pointer none := h
    have HBL := Lib.hid hBl
    clear hbx hBl
    go_enter Tryd.func97, Tryd.ntmps97
    go_wp2
    go_ret
    exact ⟨_, rfl, rfl, HBL.out⟩
  | some x =>
    obtain ⟨b, rfl, hl, hc⟩ := h
    have hx := ht x rfl
    have HBL := Lib.hid hBl
    have HBX := Lib.hid hbx
    have hc2 := (hBl.cell (p := ⟨b, 0, none⟩) hl).trans hc
    have hl2 : b < (w.alloc (.cells #[.string ⟨s.toArray⟩] 9)).heap.size := by rw [World.size_alloc]; omega
    have hne : b ≠ w.heap.size := by omega
    clear hbx hBl hc ht
    have hb : ¬ 9223372036854775807 < s.length + x.length := by omega
    have a1 : (⟨s.toArray⟩ : ByteArray) ++ ⟨x.toArray⟩ = ⟨(s ++ x).toArray⟩ := ba_app s x
    go_enter Tryd.func97, Tryd.ntmps97
    go_upto_region 1 with (fail)
    generalize hW0 : w.alloc (.cells #[.string ⟨s.toArray⟩] 9) = W0 at *
    clear hW0
    generalize hgg : w.heap.size = g at *
    have HG := Lib.hid hgg
    clear hgg
    go_wp2
    refine wp_region_still_tail 5 (by kernel_rfl) (by kernel_rfl) ?_
    simp only [List.take_succ_cons, List.take_zero, List.drop_succ_cons, List.drop_zero]
    change wpStill _ _ (W0.drewN 1) (fun a' => wpList _ _ _ _ a' (W0.drewN 1)) _ _
    have hc3 : (W0.drewN 1).cell? ⟨b, 0, none⟩ = some (.string ⟨x.toArray⟩) := hc2
    have HB2 := Lib.hid (HBL.out.drewsN 1)
    have HBX2 := Lib.hid (HBX.out.on ((Below.refl _ _).drewsN 1))
    clear hc2
    generalize W0.drewN 1 = W1 at *
    have hcn3 : W1.cell? ⟨g, 0, none⟩ = some (.string ⟨s.toArray⟩) := HBX2.out.cell 0
    have hfn3 := HBX2.out.frozen 0
    repeat (refine wpStill_step (fun K hK => ?_); go_simp; (first | refine hK _ ?_ | (go_values; refine hK _ ?_) | (go_values; go_simp; refine hK _ ?_) | (go_ite <;> go_prune <;> (try go_simp); refine hK _ ?_)); clear hK K)
    refine wpStill_nil ?_
    go_wp2
    go_ret
    have hset := HBX2.out.set_ 0 (.string ⟨(s ++ x).toArray⟩)
    refine ⟨_, rfl, ⟨g, rfl, hset.lt, ?_⟩, ?_⟩
    · have := hset.cell 0; simpa using this
    · rw [HG.out]
      exact HB2.out.setCell (p := ⟨g, 0, none⟩) (Nat.le_refl _) _
/-- the test of better, as the walk has it -/
theorem leT_parts (a b : Tx) : leT a b = (decide ((a.length : Int) < (b.length : Int)) || (decide ((a.length : Int) = (b.length : Int)) && (Go.Op.bytesLess a b || a == b))) := by
  unfold leT
  congr 1
  · rw [decide_eq_decide]; omega
  · congr 1
    rw [decide_eq_decide]; omega
set_option maxRecDepth 100000 in
set_option maxHeartbeats 4000000 in
theorem better_any (u v : Value) (a b : Ot) (w : World) (ha : PtrT w u a) (hb : PtrT w v b) :
    Calls Tryd.prog 98 #[u, v] w fun e w' => ∃ v', e = .returned v' ∧ (v' = u ∨ v' = v) ∧ PtrT w' v' (better a b) ∧ Below w.heap.size w w' := by
  cases a with
  | none =>
    obtain rfl : u = .pointer none := ha
    have HB := Lib.hid hb
    go_enter Tryd.func98, Tryd.ntmps98
    go_wp2
    go_ret
    exact ⟨_, rfl, .inr rfl, HB.out, Below.refl _ _⟩
  | some x =>
    have HA := Lib.hid ha
    obtain ⟨p, rfl, hl, hc⟩ := ha
    cases b with
    | none =>
      obtain rfl : v = .pointer none := hb
      go_enter Tryd.func98, Tryd.ntmps98
      go_wp2
      go_quiet (fail)
      go_wp2
      go_ret
      exact ⟨_, rfl, .inl rfl, HA.out.on ((Below.refl _ _).drewsN _), (Below.refl _ _).drewsN _⟩
    | some y =>
      have HB := Lib.hid hb
      obtain ⟨q, rfl, hl2, hc2⟩ := hb
      have HLT : Hid (∀ r, leT x y = r → better (some x) (some y) = if r then some x else some y) := Lib.hid (fun r h => by rw [← h]; simp only [better])
      have hxt : (⟨x.toArray⟩ : ByteArray).toList = x := ByteArray.toList_mk x
      have hyt : (⟨y.toArray⟩ : ByteArray).toList = y := ByteArray.toList_mk y
      have hcs : (decide (x.length < y.length) = true ∧ leT x y = true) ∨ (decide (x.length < y.length) = false ∧ ((x.length : Int) == (y.length : Int)) = false ∧ decide (x.length = y.length) = false ∧ leT x y = false) ∨
          (decide (x.length < y.length) = false ∧ ((x.length : Int) == (y.length : Int)) = true ∧ decide (x.length = y.length) = true ∧ (Go.Op.bytesLess x y || x == y) = leT x y) := by
        unfold leT
        by_cases h1 : x.length < y.length
        · left; simp [h1]
        · by_cases h2 : x.length = y.length
          · right; right; simp [h1, h2]
          · right; left; simp [h1, h2]; omega
      generalize better (some x) (some y) = bt at *
      generalize leT x y = le at *
      rcases hcs with ⟨h1, rfl⟩ | ⟨h1, h2, h2', rfl⟩ | ⟨h1, h2, h2', h3⟩
      · have HR := Lib.hid (HLT.out true rfl)
        go_enter Tryd.func98, Tryd.ntmps98
        go_wp2
        go_quiet (fail)
        go_wp2
        go_ret
        exact ⟨_, rfl, .inl rfl, by rw [HR.out]; exact HA.out.on ((Below.refl _ _).drewsN _), (Below.refl _ _).drewsN _⟩
      · have HR := Lib.hid (HLT.out false rfl)
        go_enter Tryd.func98, Tryd.ntmps98
        go_wp2
        go_quiet (fail)
        go_wp2
        go_ret
        exact ⟨_, rfl, .inr rfl, by rw [HR.out]; exact HB.out.on ((Below.refl _ _).drewsN _), (Below.refl _ _).drewsN _⟩
      · have HR := Lib.hid (HLT.out le rfl)
        cases le
        · go_enter Tryd.func98, Tryd.ntmps98
          go_wp2
          go_quiet (fail)
          go_wp2
          go_ret
          exact ⟨_, rfl, .inr rfl, by rw [HR.out]; exact HB.out.on ((Below.refl _ _).drewsN _), (Below.refl _ _).drewsN _⟩
        · go_enter Tryd.func98, Tryd.ntmps98
          go_wp2
          go_quiet (fail)
          go_wp2
          go_ret
          exact ⟨_, rfl, .inl rfl, by rw [HR.out]; exact HA.out.on ((Below.refl _ _).drewsN _), (Below.refl _ _).drewsN _⟩
end Go.Proofs.YteodljaphkpimaaDoor
