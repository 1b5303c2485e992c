/- Walks: lists compared. -/
import Derived.Test.YtkjiancdhaocaaaDoorWvK
namespace Go.Proofs.YtkjiancdhaocaaaDoor
open Go.RowKit Go.Shelf
set_option linter.unusedSimpArgs false
set_option linter.unusedVariables false
attribute [local go_sem] Oper.semAt_some

set_option maxHeartbeats 2000000 in
theorem EqualG_any (A : Option Addr) (c : Nat) (A2 : Option Addr) (c2 : Nat) (l l2 : List Int) (w : World) (hr : RdI w w.heap.size A l) (hr2 : RdI w w.heap.size A2 l2) (hl : l.length ≤ 1000000) (hl2 : l2.length ≤ 1000000) :
    Calls Tryd.prog 37 #[.slice A l.length c, .slice A2 l2.length c2] w fun e w' => e = .returned (.bool (decide (l = l2))) ∧ Below w.heap.size w w' := by
  by_cases hlen : l.length = l2.length
  · have HY := Lib.hid (fun (h : ∀ k, k < l.length → ix l k = ix l2 k) => ix_ext hlen h)
    have HN : Hid (∀ k, k < l.length → ix l k ≠ ix l2 k → decide (l = l2) = false) := Lib.hid fun k _ h => decide_eq_false fun e => h (by rw [e])
    have HE : Hid ((∀ k, k < l.length → ix l k = ix l2 k) → decide (l = l2) = true) := Lib.hid fun h => decide_eq_true (HY.out h)
    have HR := Lib.hid hr
    have HR2 := Lib.hid hr2
    clear hr hr2 HY
    generalize decide (l = l2) = b at *
    generalize hn2 : l2.length = n2 at *
    generalize hn : l.length = n at *
    subst hlen
    have HL := Lib.hid (And.intro hn hn2)
    clear hn hn2
    go_enter Tryd.func37, Tryd.ntmps37
    go_wp2
    go_loopg [13] n (fun k t wr => ∃ i : Nat, t = .int .i64 i ∧ i ≤ n ∧ n - i ≤ k ∧ Aside (∀ j, j < i → ix l j = ix l2 j) ∧ Below w.heap.size w wr)
    case atStart => exact ⟨0, rfl, by omega, by omega, (fun j hj => absurd hj (Nat.not_lt_zero j) : ∀ j, j < 0 → ix l j = ix l2 j), Below.refl _ _⟩
    case round =>
      obtain ⟨i, rfl, hi, hk, hall, hB⟩ := hrel
      by_cases hlt : i < n
      · obtain ⟨b1, o1, rfl, hb1, d1⟩ := HR.out.at_ (k := i) (by rw [HL.out.1]; exact hlt)
        obtain ⟨b2, o2, rfl, hb2, d2⟩ := HR2.out.at_ (k := i) (by rw [HL.out.2]; exact hlt)
        rw [← hB.cell hb1] at d1
        rw [← hB.cell hb2] at d2
        have HNi := Lib.hid (HN.out i hlt)
        have HB := Lib.hid hB
        clear hB
        by_cases hx : ix l i = ix l2 i
        · have hall2 : ∀ j, j < i + 1 → ix l j = ix l2 j := fun j hj => by
            by_cases e : j = i
            · subst e; exact hx
            · exact hall j (by omega)
          have HX := Lib.hid hall2
          rw [← hx] at d2
          clear hx HNi hall2
          generalize hxx : ix l i = x at *
          clear hxx
          go_wp2
          go_quiet (fail)
          go_wp2
          go_roundg (n - (i + 1))
          case measure => omega
          case rel => exact ⟨i + 1, by go_num, by omega, by omega, HX.out, HB.out.drewsN _⟩
        · have hb := HNi.out hx
          have hxb : (ix l i == ix l2 i) = false := beq_eq_false_iff_ne.2 hx
          have HBB := Lib.hid hb
          clear hb HNi
          generalize ix l i = x at *
          generalize ix l2 i = y at *
          go_wp2
          go_quiet (fail)
          go_wp2
          go_ret
          exact ⟨by rw [HBB.out]; rfl, HB.out.drewsN _⟩
      · obtain rfl : i = n := by omega
        have HBB := Lib.hid (HE.out hall)
        have HB := Lib.hid hB
        clear hB
        go_wp2
        go_ret
        exact ⟨by rw [HBB.out]; rfl, HB.out⟩
  · have hlen1 : ((l.length : Int) == (l2.length : Int)) = false := by rw [beq_eq_false_iff_ne]; omega
    rw [show decide (l = l2) = false from decide_eq_false fun e => hlen (by rw [e])]
    clear hr hr2
    generalize l.length = n at *
    generalize l2.length = n2 at *
    go_enter Tryd.func37, Tryd.ntmps37
    go_wp2
    go_ret
    exact ⟨rfl, Below.refl _ _⟩
set_option maxHeartbeats 2000000 in
theorem SameIntsG_any (A : Option Addr) (c : Nat) (A2 : Option Addr) (c2 : Nat) (l l2 : List Int) (w : World) (hr : RdI w w.heap.size A l) (hr2 : RdI w w.heap.size A2 l2) (hl : l.length ≤ 1000000) (hl2 : l2.length ≤ 1000000) :
    Calls Tryd.prog 16 #[.slice A l.length c, .slice A2 l2.length c2] w fun e w' => e = .returned (.bool (decide (l = l2))) ∧ Below w.heap.size w w' := by
  by_cases hlen : l.length = l2.length
  · have HY := Lib.hid (fun (h : ∀ k, k < l.length → ix l k = ix l2 k) => ix_ext hlen h)
    have HN : Hid (∀ k, k < l.length → ix l k ≠ ix l2 k → decide (l = l2) = false) := Lib.hid fun k _ h => decide_eq_false fun e => h (by rw [e])
    have HE : Hid ((∀ k, k < l.length → ix l k = ix l2 k) → decide (l = l2) = true) := Lib.hid fun h => decide_eq_true (HY.out h)
    have HR := Lib.hid hr
    have HR2 := Lib.hid hr2
    clear hr hr2 HY
    generalize decide (l = l2) = b at *
    generalize hn2 : l2.length = n2 at *
    generalize hn : l.length = n at *
    subst hlen
    have HL := Lib.hid (And.intro hn hn2)
    clear hn hn2
    go_enter Tryd.func16, Tryd.ntmps16
    go_wp2
    go_loopg [13] n (fun k t wr => ∃ i : Nat, t = .int .i64 i ∧ i ≤ n ∧ n - i ≤ k ∧ Aside (∀ j, j < i → ix l j = ix l2 j) ∧ Below w.heap.size w wr)
    case atStart => exact ⟨0, rfl, by omega, by omega, (fun j hj => absurd hj (Nat.not_lt_zero j) : ∀ j, j < 0 → ix l j = ix l2 j), Below.refl _ _⟩
    case round =>
      obtain ⟨i, rfl, hi, hk, hall, hB⟩ := hrel
      by_cases hlt : i < n
      · obtain ⟨b1, o1, rfl, hb1, d1⟩ := HR.out.at_ (k := i) (by rw [HL.out.1]; exact hlt)
        obtain ⟨b2, o2, rfl, hb2, d2⟩ := HR2.out.at_ (k := i) (by rw [HL.out.2]; exact hlt)
        rw [← hB.cell hb1] at d1
        rw [← hB.cell hb2] at d2
        have HNi := Lib.hid (HN.out i hlt)
        have HB := Lib.hid hB
        clear hB
        by_cases hx : ix l i = ix l2 i
        · have hall2 : ∀ j, j < i + 1 → ix l j = ix l2 j := fun j hj => by
            by_cases e : j = i
            · subst e; exact hx
            · exact hall j (by omega)
          have HX := Lib.hid hall2
          rw [← hx] at d2
          clear hx HNi hall2
          generalize hxx : ix l i = x at *
          clear hxx
          go_wp2
          go_quiet (fail)
          go_wp2
          go_roundg (n - (i + 1))
          case measure => omega
          case rel => exact ⟨i + 1, by go_num, by omega, by omega, HX.out, HB.out.drewsN _⟩
        · have hb := HNi.out hx
          have hxb : (ix l i == ix l2 i) = false := beq_eq_false_iff_ne.2 hx
          have HBB := Lib.hid hb
          clear hb HNi
          generalize ix l i = x at *
          generalize ix l2 i = y at *
          go_wp2
          go_quiet (fail)
          go_wp2
          go_ret
          exact ⟨by rw [HBB.out]; rfl, HB.out.drewsN _⟩
      · obtain rfl : i = n := by omega
        have HBB := Lib.hid (HE.out hall)
        have HB := Lib.hid hB
        clear hB
        go_wp2
        go_ret
        exact ⟨by rw [HBB.out]; rfl, HB.out⟩
  · have hlen1 : ((l.length : Int) == (l2.length : Int)) = false := by rw [beq_eq_false_iff_ne]; omega
    rw [show decide (l = l2) = false from decide_eq_false fun e => hlen (by rw [e])]
    clear hr hr2
    generalize l.length = n at *
    generalize l2.length = n2 at *
    go_enter Tryd.func16, Tryd.ntmps16
    go_wp2
    go_ret
    exact ⟨rfl, Below.refl _ _⟩
end Go.Proofs.YtkjiancdhaocaaaDoor
