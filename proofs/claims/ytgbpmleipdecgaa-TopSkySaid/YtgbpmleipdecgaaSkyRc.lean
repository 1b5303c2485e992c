/- Walks over sky's reference: equal lists of cells; which lists are sets; what is told of an area. -/
import Derived.Test.YtgbpmleipdecgaaSkyRb
namespace Go.Proofs.Ytgbpmleipdecgaa
open Go.RowKit
set_option linter.unusedSimpArgs false
set_option linter.unusedVariables false

set_option maxHeartbeats 2000000 in
theorem SameCells_any (A A' : Option Addr) (c c' : Nat) (l m : List (Int × Int)) (w : World) (hr : RdP w w.heap.size A l) (hr' : RdP w w.heap.size A' m) (hl : l.length ≤ 1000000) (hm : m.length ≤ 1125899906842624) :
    Calls Try.prog 20 #[.slice A l.length c, .slice A' m.length c'] w fun e w' => e = .returned (.bool (decide (l = m))) ∧ Below w.heap.size w w' := by
  have HR := Lib.hid hr
  have HR' := Lib.hid hr'
  have HN := Lib.hid (fun k (h : ¬ (pa l k = pa m k ∧ pb l k = pb m k)) => cels_ne h)
  have HY := Lib.hid (fun (hl : l.length = m.length) (h : ∀ k, k < l.length → pa l k = pa m k ∧ pb l k = pb m k) => decide_eq_true (cels_ext hl h))
  have HZ : Hid (¬ l.length = m.length → decide (l = m) = false) := Lib.hid (fun h => decide_eq_false fun e => h (by rw [e]))
  clear hr hr'
  generalize decide (l = m) = r at *
  by_cases hlm : l.length = m.length
  · have HLM := Lib.hid hlm
    rw [← hlm]
    have HM2 := Lib.hid (fun k (hk : k < l.length) => HR'.out.at_ (k := k) (by rw [← HLM.out]; exact hk))
    have HM1 := Lib.hid (fun k (hk : k < l.length) => HR.out.at_ (k := k) hk)
    clear hlm hm
    generalize l.length = n at *
    go_enter Try.func20, Try.ntmps20
    go_wp2
    go_loopg [5] n (fun k s wr => ∃ i : Nat, s = .int .i64 i ∧ i ≤ n ∧ n - i ≤ k ∧ Below w.heap.size w wr ∧ Aside (∀ k, k < i → pa l k = pa m k ∧ pb l k = pb m k))
    case atStart => exact ⟨0, rfl, by omega, by omega, Below.refl _ _, (fun j hj => absurd hj (Nat.not_lt_zero j) : ∀ k, k < 0 → pa l k = pa m k ∧ pb l k = pb m k)⟩
    case round =>
      obtain ⟨i, rfl, hi, hk, hB, HA⟩ := hrel
      by_cases hlt : i < n
      · obtain ⟨b, o, rfl, hb, c1, c2⟩ := HM1.out i hlt
        obtain ⟨b', o', rfl, hb', d1, d2⟩ := HM2.out i hlt
        rw [← hB.cell hb] at c1 c2
        rw [← hB.cell hb'] at d1 d2
        have hltI : (i : Int) < (n : Int) := by omega
        have HL := Lib.hid (And.intro hlt hk)
        have HBB := Lib.hid hB
        have HNI := Lib.hid (HN.out i)
        have HAI := Lib.hid (fun (h : pa l i = pa m i ∧ pb l i = pb m i) (k : Nat) (hk : k < i + 1) => (by
          rcases Nat.lt_succ_iff_lt_or_eq.1 hk with h1 | rfl
          · exact HA.out k h1
          · exact h : pa l k = pa m k ∧ pb l k = pb m k))
        clear hB HA hk
        generalize pa l i = x at *
        generalize pb l i = y at *
        generalize pa m i = x' at *
        generalize pb m i = y' at *
        by_cases e1 : x = x'
        · by_cases e2 : y = y'
          · subst e1; subst e2
            go_wp2
            go_quiet (fail)
            go_wp2
            go_roundg (n - (i + 1))
            case measure => have := HL.out; omega
            case rel => exact ⟨i + 1, by go_num, by have := HL.out; omega, by have := HL.out; omega, HBB.out.drewsN _, HAI.out (by simp)⟩
          · subst e1
            have e3 : (y == y') = false := by rw [beq_eq_false_iff_ne]; exact e2
            have hrf := HNI.out (fun h => e2 h.2)
            subst hrf
            go_wp2
            go_quiet (fail)
            go_wp2
            go_ret
            exact ⟨rfl, HBB.out.drewsN _⟩
        · have e3 : (x == x') = false := by rw [beq_eq_false_iff_ne]; exact e1
          have hrf := HNI.out (fun h => e1 h.1)
          subst hrf
          go_wp2
          go_quiet (fail)
          go_wp2
          go_ret
          exact ⟨rfl, HBB.out.drewsN _⟩
      · obtain rfl : i = n := by omega
        have hltI : ¬ (i : Int) < (i : Int) := by omega
        have hrt := HY.out HLM.out (fun k hk => HA.out k hk)
        subst hrt
        go_wp2
        go_ret
        exact ⟨rfl, hB⟩
  · have hrf := HZ.out hlm
    have hne : ((l.length : Int) != (m.length : Int)) = true := by rw [bne_iff_ne]; omega
    subst hrf
    have hle : (l.length : Int) ≤ 1000000 := by omega
    generalize l.length = n at *
    generalize m.length = n2 at *
    go_enter Try.func20, Try.ntmps20
    go_wp2
    go_ret
    exact ⟨rfl, Below.refl _ _⟩

set_option maxRecDepth 100000 in
set_option maxHeartbeats 2000000 in
theorem refValid_any (A : Option Addr) (c : Nat) (l : List (Int × Int)) (w : World) (hr : RdP w w.heap.size A l) (hl : l.length ≤ 1000000) :
    Calls Try.prog 5 #[.slice A l.length c] w fun e w' => e = .returned (.bool (vldC l)) ∧ Below w.heap.size w w' := by
  have HR := Lib.hid hr
  have HAR := Lib.hid (fun (h : okL l) W (hW : Below w.heap.size w W) => AreaOf_any A c l W (hr.on hW) hl h)
  have HC := Lib.hid (fun W g hX => Cells_any (uniP l) g 3072 W hX)
  have HE := Lib.hid (fun A1 c1 W (h1 : RdP W W.heap.size A1 (cellsP (uniP l))) (hW : Below w.heap.size w W) => SameCells_any A1 A c1 c (cellsP (uniP l)) l W h1 (hr.on hW) (by have := cells_len (uniP l); omega) (by omega))
  have HI := Lib.hid IsCell_any
  have HN : Hid (∀ k, k < l.length → okP (pa l k) (pb l k) = false → vldC l = false) := Lib.hid (fun k hk h => by
    unfold vldC
    have : badB l = true := by
      cases hb : badB l
      · have := badB_no hb k hk; rw [h] at this; cases this
      · rfl
    rw [this, Bool.not_true, Bool.and_false, Bool.false_and])
  have HY : Hid (l.length ≤ 400 → okL l → vldC l = decide (cellsP (uniP l) = l)) := Lib.hid (fun h4 h => by
    unfold vldC
    have : badB l = false := anyF_no.2 fun k hk => by rw [h k hk]; rfl
    rw [this, decide_eq_true h4]
    simp)
  have H4 : Hid (400 < l.length → vldC l = false) := Lib.hid (fun h4 => by
    unfold vldC; rw [decide_eq_false (by omega)]; simp)
  have HOK : Hid ((∀ k, k < l.length → okP (pa l k) (pb l k) = true) → okL l) := Lib.hid (fun h => h)
  unfold AreQ at HAR
  unfold CelsQ at HC
  generalize decide (cellsP (uniP l) = l) = eq at *
  generalize vldC l = r at *
  by_cases h4 : 400 < l.length
  · have h4I : decide ((400 : Int) < (l.length : Int)) = true := by rw [decide_eq_true_eq]; omega
    have hr0 := H4.out h4
    subst hr0
    clear HN HY H4 HE HC HAR hr HR
    generalize l.length = n at *
    go_enter Try.func5, Try.ntmps5
    go_wp2
    go_ret
    exact ⟨rfl, Below.refl _ _⟩
  · have h4I : decide ((400 : Int) < (l.length : Int)) = false := by rw [decide_eq_false_iff_not]; omega
    have HY2 := Lib.hid (HY.out (by omega))
    have HAT := Lib.hid (fun W (hW : Below w.heap.size w W) k (hk : k < l.length) => (hr.on hW).at_ hk)
    have hn4 : l.length ≤ 400 := by omega
    clear HY H4 hr h4
    generalize hU : uniP l = U at *
    clear hU
    generalize cellsP U = CP at *
    generalize CP.length = n2 at *
    generalize l.length = n at *
    go_enter Try.func5, Try.ntmps5
    go_wp2
    go_loopg [3] n (fun gk t wr => ∃ i : Nat, t = .int .i64 i ∧ i ≤ n ∧ n - i ≤ gk ∧ Below w.heap.size w wr ∧ Aside (∀ k, k < i → okP (pa l k) (pb l k) = true))
    case atStart => exact ⟨0, rfl, by omega, by omega, Below.refl _ _, (fun j hj => absurd hj (Nat.not_lt_zero j) : ∀ k, k < 0 → okP (pa l k) (pb l k) = true)⟩
    case round =>
      obtain ⟨i, rfl, hi, hk, hB, HA⟩ := hrel
      by_cases hlt : i < n
      · obtain ⟨b, o, rfl, hb, c0, c1⟩ := HAT.out _ hB i hlt
        have hltI : (i : Int) < (n : Int) := by omega
        have HNI := Lib.hid (HN.out i hlt)
        have HII := Lib.hid (fun W => HI.out (pa l i) (pb l i) W)
        have HAI := Lib.hid (fun (h : okP (pa l i) (pb l i) = true) (k : Nat) (hk : k < i + 1) => (by
          rcases Nat.lt_succ_iff_lt_or_eq.1 hk with h1 | rfl
          · exact HA.out k h1
          · exact h : okP (pa l k) (pb l k) = true))
        have HL := Lib.hid (And.intro hlt hk)
        have HBB := Lib.hid hB
        clear hB HA hk
        generalize pa l i = x at *
        generalize pb l i = y at *
        cases hok : okP x y
        · have hr0 := HNI.out hok
          subst hr0
          rw [hok] at HII
          clear hok
          go_wp2_with (go_at_call 19; refine (HII.out _).mono ?_; rintro e w2 ⟨rfl, h2⟩)
          go_ret
          exact ⟨rfl, HBB.out.trs h2⟩
        · have HAJ := Lib.hid (HAI.out hok)
          rw [hok] at HII
          clear hok HNI HAI
          go_wp2_with (go_at_call 19; refine (HII.out _).mono ?_; rintro e w2 ⟨rfl, h2⟩)
          go_roundg (n - (i + 1))
          case measure => have := HL.out; omega
          case rel => exact ⟨i + 1, by go_num, by have := HL.out; omega, by have := HL.out; omega, HBB.out.trs h2, HAJ.out⟩
      · obtain rfl : i = n := by omega
        have hltI : ¬ (i : Int) < (i : Int) := by omega
        have hok := HOK.out (fun k hk => HA.out k hk)
        have hrt := HY2.out hok
        subst hrt
        have HAA := Lib.hid (HAR.out hok _ hB)
        have HBB := Lib.hid hB
        clear hok hB HA
        go_wp2_with (first
          | (go_at_call 21; refine HAA.out.mono ?_; rintro e w2 ⟨g, rfl, hg, h2, hX⟩)
          | (go_at_call 22; refine (HC.out _ _ hX).mono ?_; rintro e w3 ⟨h3, A3, c3, rfl, hr3⟩; have h3' := HBB.out.trs (h2.trs h3))
          | (go_at_call 20; refine (HE.out _ _ _ hr3 h3').mono ?_; rintro e w4 ⟨rfl, h4⟩))
        go_ret
        exact ⟨rfl, h3'.trs h4⟩
end Go.Proofs.Ytgbpmleipdecgaa
