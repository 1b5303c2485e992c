/- Walks over package sky: equal lists of cells; what is told of a region; which lists are sets; the set of cells. -/
import Derived.Test.YtolgpigdioanoaaSkyCi
namespace Go.Proofs.Ytolgpigdioanoaa
open Go.RowKit
set_option linter.unusedSimpArgs false
set_option linter.unusedVariables false

theorem cels_ext {l m : List (Int × Int)} (hl : l.length = m.length) (h : ∀ k, k < l.length → pa l k = pa m k ∧ pb l k = pb m k) : l = m := by
  refine List.ext_getElem hl fun k h1 h2 => ?_
  have := h k h1
  simp only [pa, pb, List.getD_eq_getElem?_getD, List.getElem?_eq_getElem h1, List.getElem?_eq_getElem h2, Option.getD_some] at this
  exact Prod.ext this.1 this.2
theorem cels_ne {l m : List (Int × Int)} {k : Nat} (h : ¬ (pa l k = pa m k ∧ pb l k = pb m k)) : decide (l = m) = false := by
  rw [decide_eq_false_iff_not]
  rintro rfl
  exact h ⟨rfl, rfl⟩
set_option maxHeartbeats 2000000 in
theorem Equal_any (A A' : Option Addr) (c c' : Nat) (l m : List (Int × Int)) (w : World) (hr : RdP w w.heap.size A l) (hr' : RdP w w.heap.size A' m) (hl : l.length ≤ 1000000) (hm : m.length ≤ 1125899906842624) :
    Calls Try.prog 121 #[.slice A l.length c, .slice A' m.length c'] w fun e w' => e = .returned (.bool (decide (l = m))) ∧ Below w.heap.size w w' := by
  have HR := Lib.hid hr
  have HR' := Lib.hid hr'
  have HN := Lib.hid (fun k (h : ¬ (pa l k = pa m k ∧ pb l k = pb m k)) => cels_ne h)
  have HY := Lib.hid (fun (hl : l.length = m.length) (h : ∀ k, k < l.length → pa l k = pa m k ∧ pb l k = pb m k) => decide_eq_true (cels_ext hl h))
  have HZ : Hid (¬ l.length = m.length → decide (l = m) = false) := Lib.hid (fun h => decide_eq_false fun e => h (by rw [e]))
  clear hr hr'
  generalize decide (l = m) = r at *
  by_cases hlm : l.length = m.length
  · have HLM := Lib.hid hlm
    rw [← hlm]
    have HM2 := Lib.hid (fun k (hk : k < l.length) => HR'.out.at_ (k := k) (by rw [← HLM.out]; exact hk))
    have HM1 := Lib.hid (fun k (hk : k < l.length) => HR.out.at_ (k := k) hk)
    clear hlm hm
    generalize l.length = n at *
    go_enter Try.func121, Try.ntmps121
    go_wp2
    go_loopg [13] n (fun k s wr => ∃ i : Nat, s = .int .i64 i ∧ i ≤ n ∧ n - i ≤ k ∧ Below w.heap.size w wr ∧ Aside (∀ k, k < i → pa l k = pa m k ∧ pb l k = pb m k))
    case atStart => exact ⟨0, rfl, by omega, by omega, Below.refl _ _, (fun j hj => absurd hj (Nat.not_lt_zero j) : ∀ k, k < 0 → pa l k = pa m k ∧ pb l k = pb m k)⟩
    case round =>
      obtain ⟨i, rfl, hi, hk, hB, HA⟩ := hrel
      by_cases hlt : i < n
      · obtain ⟨b, o, rfl, hb, c1, c2⟩ := HM1.out i hlt
        obtain ⟨b', o', rfl, hb', d1, d2⟩ := HM2.out i hlt
        rw [← hB.cell hb] at c1 c2
        rw [← hB.cell hb'] at d1 d2
        have hltI : (i : Int) < (n : Int) := by omega
        have HL := Lib.hid (And.intro hlt hk)
        have HBB := Lib.hid hB
        have HNI := Lib.hid (HN.out i)
        have HAI := Lib.hid (fun (h : pa l i = pa m i ∧ pb l i = pb m i) (k : Nat) (hk : k < i + 1) => (by
          rcases Nat.lt_succ_iff_lt_or_eq.1 hk with h1 | rfl
          · exact HA.out k h1
          · exact h : pa l k = pa m k ∧ pb l k = pb m k))
        clear hB HA hk
        generalize pa l i = x at *
        generalize pb l i = y at *
        generalize pa m i = x' at *
        generalize pb m i = y' at *
        by_cases e1 : x = x'
        · by_cases e2 : y = y'
          · subst e1; subst e2
            go_wp2
            go_quiet (fail)
            go_wp2
            go_roundg (n - (i + 1))
            case measure => have := HL.out; omega
            case rel => exact ⟨i + 1, by go_num, by have := HL.out; omega, by have := HL.out; omega, HBB.out.drewsN _, HAI.out (by simp)⟩
          · subst e1
            have e3 : (y == y') = false := by rw [beq_eq_false_iff_ne]; exact e2
            have hrf := HNI.out (fun h => e2 h.2)
            subst hrf
            go_wp2
            go_quiet (fail)
            go_wp2
            go_ret
            exact ⟨rfl, HBB.out.drewsN _⟩
        · have e3 : (x == x') = false := by rw [beq_eq_false_iff_ne]; exact e1
          have hrf := HNI.out (fun h => e1 h.1)
          subst hrf
          go_wp2
          go_quiet (fail)
          go_wp2
          go_ret
          exact ⟨rfl, HBB.out.drewsN _⟩
      · obtain rfl : i = n := by omega
        have hltI : ¬ (i : Int) < (i : Int) := by omega
        have hrt := HY.out HLM.out (fun k hk => HA.out k hk)
        subst hrt
        go_wp2
        go_ret
        exact ⟨rfl, hB⟩
  · have hrf := HZ.out hlm
    have hne : ((l.length : Int) != (m.length : Int)) = true := by rw [bne_iff_ne]; omega
    subst hrf
    have hle : (l.length : Int) ≤ 1000000 := by omega
    generalize l.length = n at *
    generalize m.length = n2 at *
    go_enter Try.func121, Try.ntmps121
    go_wp2
    go_ret
    exact ⟨rfl, Below.refl _ _⟩
end Go.Proofs.Ytolgpigdioanoaa
