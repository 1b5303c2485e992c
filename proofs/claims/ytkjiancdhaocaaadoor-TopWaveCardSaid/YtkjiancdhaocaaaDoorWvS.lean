/- WvS WvT WvI -/
import Derived.Test.YtkjiancdhaocaaaDoorWvR
import Derived.Test.YtkjiancdhaocaaaDoorWvH
import Derived.Deep.RegionHeld3
/- Walks over the reference of chapter wave: the shortest text. -/
namespace Go.Proofs.YtkjiancdhaocaaaDoor
open Go.RowKit Go.Shelf
set_option linter.unusedSimpArgs false
set_option linter.unusedVariables false
attribute [local go_sem] Oper.semAt_some

theorem encF_leB : ∀ l : List Int, LeB (1000 * l.length) (encF l)
  | [] => fun i hi x hx => by simp [encF] at hx; subst hx; simp
  | d :: r => (leB_step (encF_leB r) d).more (by simp; omega)
/-- of the first k widths, from width i on -/
def mnF (F : Nat → Ot) (d : Int) (i k : Nat) : Ot := minD upK dnK (f0 F d) i k
theorem mnF_zero (F : Nat → Ot) (d : Int) (i : Nat) : mnF F d i 0 = none := rfl
theorem mnF_no {F : Nat → Ot} {d : Int} {i k : Nat} (h : canD (wid k) d = false) : mnF F d i (k + 1) = mnF F d i k := by
  unfold mnF
  rw [minD]
  unfold cand f0
  rw [if_neg (by rw [h]; decide)]
  cases minD upK dnK _ i k <;> rfl
theorem mnF_yes {F : Nat → Ot} {d : Int} {i k : Nat} {x : Tx} (h : canD (wid k) d = true) (hx : F k = some x) : mnF F d i (k + 1) = better (mnF F d i k) (some (toT upK dnK i k ++ wordB (wid k) d ++ x)) := by
  unfold mnF
  rw [minD]
  congr 1
  unfold cand f0
  rw [if_pos h, hx]
  simp [pre]
theorem mnF_five {F : Nat → Ot} {d : Int} {i : Nat} (hi : i < 5) : mnF F d i 5 = stepP F d i := (rl_min upK dnK _ hi).symm
end Go.Proofs.YtkjiancdhaocaaaDoor

/- Walks over the reference of chapter wave: differences, Encode, Length. -/
namespace Go.Proofs.YtkjiancdhaocaaaDoor
open Go.RowKit Go.Shelf
set_option linter.unusedSimpArgs false
set_option linter.unusedVariables false
attribute [local go_sem] Oper.semAt_some

theorem OwnI.one (w : World) (e : TypeId) (x : Int) : OwnI (w.alloc (.cells #[.int .i64 x] e)) w.heap.size e (.slice (some ⟨w.heap.size, 0, none⟩) 1 1) [x] :=
  ⟨rfl, .inr ⟨w.heap.size, 1, #[.int .i64 x], rfl, Nat.le_refl _, heap_alloc_new w _, Nat.le_refl _, by unfold maxLen; omega, rfl, rfl⟩⟩
theorem difN_one (l : List Int) : difN l 1 = [ix l 0] := by simp [difN, difA, List.range_succ]
theorem difs_small {s : List Int} (h : vldW s = true) : ∀ k, k < (difs s).length → -1023 ≤ ix (difs s) k ∧ ix (difs s) k ≤ 1023 := fun k hk => by
  rw [difs_len] at hk
  rw [difs_ix s hk]
  exact difA_small h hk
end Go.Proofs.YtkjiancdhaocaaaDoor

/- Walks over package wave and its reference: SameInts, Valid, Clone. -/
namespace Go.Proofs.YtkjiancdhaocaaaDoor
open Go.RowKit Go.Shelf
set_option linter.unusedSimpArgs false
set_option linter.unusedVariables false
attribute [local go_sem] Oper.semAt_some

set_option maxHeartbeats 2000000 in
theorem SameInts_any (A : Option Addr) (c : Nat) (A2 : Option Addr) (c2 : Nat) (l : List Int) (w : World) (hr : RdI w w.heap.size A l) (hr2 : RdI w w.heap.size A2 l) (hl : l.length ≤ 1000000) :
    Calls Tryd.prog 16 #[.slice A l.length c, .slice A2 l.length c2] w fun e w' => e = .returned (.bool true) ∧ Below w.heap.size w w' := by
  have HR := Lib.hid hr
  have HR2 := Lib.hid hr2
  clear hr hr2
  generalize hn : l.length = n at *
  have HN := Lib.hid hn; clear hn
  go_enter Tryd.func16, Tryd.ntmps16
  go_wp2
  go_loopg [13] n (fun k t wr => ∃ i : Nat, t = .int .i64 i ∧ i ≤ n ∧ n - i ≤ k ∧ Below w.heap.size w wr)
  case atStart => exact ⟨0, rfl, by omega, by omega, Below.refl _ _⟩
  case round =>
    obtain ⟨i, rfl, hi, hk, hB⟩ := hrel
    by_cases hlt : i < n
    · obtain ⟨b1, o1, rfl, hb1, d1⟩ := HR.out.at_ (k := i) (by rw [HN.out]; exact hlt)
      obtain ⟨b2, o2, rfl, hb2, d2⟩ := HR2.out.at_ (k := i) (by rw [HN.out]; exact hlt)
      rw [← hB.cell hb1] at d1
      rw [← hB.cell hb2] at d2
      generalize ix l i = x at *
      have HB := Lib.hid hB
      clear hB
      go_wp2
      go_quiet (fail)
      go_wp2
      go_roundg (n - (i + 1))
      case measure => omega
      case rel => exact ⟨i + 1, by go_num, by omega, by omega, HB.out.drewsN _⟩
    · obtain rfl : n = i := by omega
      go_wp2
      go_ret
      exact ⟨rfl, hB⟩
/-- all k first samples lie in their bounds -/
theorem badW_first {l : List Int} {n : Nat} (h : ∀ k, k < n → smpB (ix l k) = true) (hn : n = l.length) : vldW l = btw 1 l.length 40 := by
  have : badW l = false := by
    unfold badW
    rw [anyF_no]
    intro k hk
    rw [h k (by omega)]
    rfl
  unfold vldW
  rw [this]
  simp
theorem badW_some {l : List Int} {k : Nat} (hk : k < l.length) (h : smpB (ix l k) = false) : vldW l = false := by
  cases hv : vldW l with
  | false => rfl
  | true =>
    obtain ⟨-, -, h3⟩ := vldW_iff.1 hv
    have := h3 k hk
    unfold smpB btw at h
    simp at h
    omega
set_option maxHeartbeats 2000000 in
theorem refValid_any (A : Option Addr) (c : Nat) (l : List Int) (w : World) (hr : RdI w w.heap.size A l) (hl : l.length ≤ 1000000) :
    Calls Tryd.prog 6 #[.slice A l.length c] w fun e w' => e = .returned (.bool (vldW l)) ∧ Below w.heap.size w w' := by
  have HR := Lib.hid hr
  have HY := Lib.hid (fun n h hn => badW_first (l := l) (n := n) h hn)
  have HNO := Lib.hid (fun k hk h => badW_some (l := l) (k := k) hk h)
  clear hr
  generalize vldW l = V at *
  generalize hn : l.length = n at *
  have HN := Lib.hid hn; clear hn
  go_enter Tryd.func6, Tryd.ntmps6
  go_wp2
  go_loopg [7] n (fun k t wr => ∃ i : Nat, t = .int .i64 i ∧ i ≤ n ∧ n - i ≤ k ∧ (∀ j, j < i → smpB (ix l j) = true) ∧ wr = w)
  case atStart => exact ⟨0, rfl, by omega, by omega, fun j hj => by omega, rfl⟩
  case round =>
    obtain ⟨i, rfl, hi, hk, hall, rfl⟩ := hrel
    by_cases hlt : i < n
    · obtain ⟨b1, o1, rfl, hb1, d1⟩ := HR.out.at_ (k := i) (by rw [HN.out]; exact hlt)
      have HALL := Lib.hid hall
      clear hall
      cases hs : smpB (ix l i)
      · have hV := HNO.out i hlt hs
        have hs2 : ix l i < 0 ∨ (0 ≤ ix l i ∧ 1023 < ix l i) := by unfold smpB btw at hs; simp at hs; omega
        have HSS := Lib.hid hs
        clear hs
        generalize ix l i = x at *
        rcases hs2 with h1 | ⟨h1, h2⟩
        · go_wp2
          go_ret
          exact ⟨by simp [hV], Below.refl _ _⟩
        · go_wp2
          go_ret
          exact ⟨by simp [hV], Below.refl _ _⟩
      · have hs2 : 0 ≤ ix l i ∧ ix l i ≤ 1023 := by unfold smpB btw at hs; simp at hs; omega
        have HSS := Lib.hid hs
        clear hs
        generalize hx : ix l i = x at *
        have HX := Lib.hid hx; clear hx
        obtain ⟨h1, h2⟩ := hs2
        go_wp2
        go_roundg (n - (i + 1))
        case measure => omega
        case rel => exact ⟨i + 1, by go_num, by omega, by omega, fun j hj => by
          by_cases e : j = i
          · subst e; rw [HX.out]; exact HSS.out
          · exact HALL.out j (by omega), rfl⟩
    · obtain rfl : i = n := by omega
      have hV := HY.out i hall (by rfl)
      clear hall
      have HV := Lib.hid hV
      clear hV
      by_cases h1 : 1 ≤ i
      · have h1I : (1 : Int) ≤ (i : Int) := by omega
        by_cases h2 : i ≤ 40
        · have h2I : (i : Int) ≤ 40 := by omega
          go_wp2
          go_ret
          exact ⟨by rw [HV.out]; unfold btw; simp [h1I, h2I], Below.refl _ _⟩
        · have h2I : ¬ (i : Int) ≤ 40 := by omega
          go_wp2
          go_ret
          exact ⟨by rw [HV.out]; unfold btw; simp [h1I, h2I], Below.refl _ _⟩
      · have h1I : ¬ (1 : Int) ≤ (i : Int) := by omega
        go_wp2
        go_ret
        exact ⟨by rw [HV.out]; unfold btw; simp; omega, Below.refl _ _⟩
/-! ### the clone -/
theorem OwnI.empty (w : World) (e : TypeId) : OwnI (w.alloc (.cells #[] e)) w.heap.size e (.slice (some ⟨w.heap.size, 0, none⟩) 0 0) [] :=
  ⟨rfl, .inr ⟨w.heap.size, 0, #[], rfl, Nat.le_refl _, heap_alloc_new w _, Nat.le_refl _, by unfold maxLen; omega, rfl, rfl⟩⟩
end Go.Proofs.YtkjiancdhaocaaaDoor
