/- Walks over package wave and its reference: SameInts, Valid, Clone. -/
import Derived.Test.YteodljaphkpimaaDoorWvH
namespace Go.Proofs.YteodljaphkpimaaDoor
open Go.RowKit Go.Shelf
set_option linter.unusedSimpArgs false
set_option linter.unusedVariables false
attribute [local go_sem] Oper.semAt_some

set_option maxHeartbeats 2000000 in
theorem SameInts_any (A : Option Addr) (c : Nat) (A2 : Option Addr) (c2 : Nat) (l : List Int) (w : World) (hr : RdI w w.heap.size A l) (hr2 : RdI w w.heap.size A2 l) (hl : l.length ≤ 1000000) :
    Calls Tryd.prog 24 #[.slice A l.length c, .slice A2 l.length c2] w fun e w' => e = .returned (.bool true) ∧ Below w.heap.size w w' := by
  have HR := Lib.hid hr
  have HR2 := Lib.hid hr2
  clear hr hr2
  generalize hn : l.length = n at *
  have HN := Lib.hid hn; clear hn
  go_enter Tryd.func24, Tryd.ntmps24
  go_wp2
  go_loopg [13] n (fun k t wr => ∃ i : Nat, t = .int .i64 i ∧ i ≤ n ∧ n - i ≤ k ∧ Below w.heap.size w wr)
  case atStart => exact ⟨0, rfl, by omega, by omega, Below.refl _ _⟩
  case round =>
    obtain ⟨i, rfl, hi, hk, hB⟩ := hrel
    by_cases hlt : i < n
    · obtain ⟨b1, o1, rfl, hb1, d1⟩ := HR.out.at_ (k := i) (by rw [HN.out]; exact hlt)
      obtain ⟨b2, o2, rfl, hb2, d2⟩ := HR2.out.at_ (k := i) (by rw [HN.out]; exact hlt)
      rw [← hB.cell hb1] at d1
      rw [← hB.cell hb2] at d2
      generalize ix l i = x at *
      have HB := Lib.hid hB
      clear hB
      go_wp2
      go_quiet (fail)
      go_wp2
      go_roundg (n - (i + 1))
      case measure => omega
      case rel => exact ⟨i + 1, by go_num, by omega, by omega, HB.out.drewsN _⟩
    · obtain rfl : n = i := by omega
      go_wp2
      go_ret
      exact ⟨rfl, hB⟩
/-- all k first samples lie in their bounds -/
theorem badW_first {l : List Int} {n : Nat} (h : ∀ k, k < n → smpB (ix l k) = true) (hn : n = l.length) : vldW l = btw 1 l.length 40 := by
  have : badW l = false := by
    unfold badW
    rw [anyF_no]
    intro k hk
    rw [h k (by omega)]
    rfl
  unfold vldW
  rw [this]
  simp
theorem badW_some {l : List Int} {k : Nat} (hk : k < l.length) (h : smpB (ix l k) = false) : vldW l = false := by
  cases hv : vldW l with
  | false => rfl
  | true =>
    obtain ⟨-, -, h3⟩ := vldW_iff.1 hv
    have := h3 k hk
    unfold smpB btw at h
    simp at h
    omega
set_option maxHeartbeats 2000000 in
theorem refValid_any (A : Option Addr) (c : Nat) (l : List Int) (w : World) (hr : RdI w w.heap.size A l) (hl : l.length ≤ 1000000) :
    Calls Tryd.prog 21 #[.slice A l.length c] w fun e w' => e = .returned (.bool (vldW l)) ∧ Below w.heap.size w w' := by
  have HR := Lib.hid hr
  have HY := Lib.hid (fun n h hn => badW_first (l := l) (n := n) h hn)
  have HNO := Lib.hid (fun k hk h => badW_some (l := l) (k := k) hk h)
  clear hr
  generalize vldW l = V at *
  generalize hn : l.length = n at *
  have HN := Lib.hid hn; clear hn
  go_enter Tryd.func21, Tryd.ntmps21
  go_wp2
  go_loopg [7] n (fun k t wr => ∃ i : Nat, t = .int .i64 i ∧ i ≤ n ∧ n - i ≤ k ∧ (∀ j, j < i → smpB (ix l j) = true) ∧ wr = w)
  case atStart => exact ⟨0, rfl, by omega, by omega, fun j hj => by omega, rfl⟩
  case round =>
    obtain ⟨i, rfl, hi, hk, hall, rfl⟩ := hrel
    by_cases hlt : i < n
    · obtain ⟨b1, o1, rfl, hb1, d1⟩ := HR.out.at_ (k := i) (by rw [HN.out]; exact hlt)
      have HALL := Lib.hid hall
      clear hall
      cases hs : smpB (ix l i)
      · have hV := HNO.out i hlt hs
        have hs2 : ix l i < 0 ∨ (0 ≤ ix l i ∧ 1023 < ix l i) := by unfold smpB btw at hs; simp at hs; omega
        have HSS := Lib.hid hs
        clear hs
        generalize ix l i = x at *
        rcases hs2 with h1 | ⟨h1, h2⟩
        · go_wp2
          go_ret
          exact ⟨by simp [hV], Below.refl _ _⟩
        · go_wp2
          go_ret
          exact ⟨by simp [hV], Below.refl _ _⟩
      · have hs2 : 0 ≤ ix l i ∧ ix l i ≤ 1023 := by unfold smpB btw at hs; simp at hs; omega
        have HSS := Lib.hid hs
        clear hs
        generalize hx : ix l i = x at *
        have HX := Lib.hid hx; clear hx
        obtain ⟨h1, h2⟩ := hs2
        go_wp2
        go_roundg (n - (i + 1))
        case measure => omega
        case rel => exact ⟨i + 1, by go_num, by omega, by omega, fun j hj => by
          by_cases e : j = i
          · subst e; rw [HX.out]; exact HSS.out
          · exact HALL.out j (by omega), rfl⟩
    · obtain rfl : i = n := by omega
      have hV := HY.out i hall (by rfl)
      clear hall
      have HV := Lib.hid hV
      clear hV
      by_cases h1 : 1 ≤ i
      · have h1I : (1 : Int) ≤ (i : Int) := by omega
        by_cases h2 : i ≤ 40
        · have h2I : (i : Int) ≤ 40 := by omega
          go_wp2
          go_ret
          exact ⟨by rw [HV.out]; unfold btw; simp [h1I, h2I], Below.refl _ _⟩
        · have h2I : ¬ (i : Int) ≤ 40 := by omega
          go_wp2
          go_ret
          exact ⟨by rw [HV.out]; unfold btw; simp [h1I, h2I], Below.refl _ _⟩
      · have h1I : ¬ (1 : Int) ≤ (i : Int) := by omega
        go_wp2
        go_ret
        exact ⟨by rw [HV.out]; unfold btw; simp; omega, Below.refl _ _⟩
/-! ### the clone -/
theorem OwnI.empty (w : World) (e : TypeId) : OwnI (w.alloc (.cells #[] e)) w.heap.size e (.slice (some ⟨w.heap.size, 0, none⟩) 0 0) [] :=
  ⟨rfl, .inr ⟨w.heap.size, 0, #[], rfl, Nat.le_refl _, heap_alloc_new w _, Nat.le_refl _, by unfold maxLen; omega, rfl, rfl⟩⟩
theorem CloneI_any (A : Option Addr) (c : Nat) (L : List Int) (w : World) (hr : RdI w w.heap.size A L) (hne : L ≠ []) (hl : L.length ≤ 1000000) :
    Calls Tryd.prog 68 #[.slice A L.length c] w fun e w' => ∃ v, e = .returned v ∧ OwnI w' w.heap.size 3 v L ∧ Below w.heap.size w w' := by
  have hA : ∃ b o, A = some ⟨b, o, none⟩ := by
    rcases hr with h | ⟨b, o, h, _⟩
    · exact absurd h hne
    · exact ⟨b, o, h⟩
  have HR := Lib.hid hr; clear hr
  have HN := Lib.hid hne; clear hne
  obtain ⟨b, o, rfl⟩ := hA
  have hq := fun W : World => Lib.run_eql_slice_nil (P := Tryd.prog) (w := W)
  go_enter Tryd.func68, Tryd.ntmps68
  have HO := Lib.hid (OwnI.empty w 3)
  have HR1 := Lib.hid (HR.out.on (below_alloc w (.cells #[] 3)))
  go_wp2_with (at_builtin; refine wp_app_ints 22 rfl (.tmp 5) (.tmp 6) rfl Tryd.underlying22 infoInt _ w.heap.size (.slice (some ⟨w.heap.size, 0, none⟩) 0 0) [] L (some ⟨b, o, none⟩) c rfl rfl HO.out HR1.out HN.out (by decide) hl (by simp) ?_; intro v' w' hO3 hB3 _)
  go_ret
  exact ⟨v', rfl, hO3, (below_alloc _ _).trans hB3⟩
end Go.Proofs.YteodljaphkpimaaDoor
