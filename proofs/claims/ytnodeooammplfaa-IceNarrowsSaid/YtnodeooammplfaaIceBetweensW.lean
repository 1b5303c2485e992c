/- The walk of the law IceBetweens. -/
import Derived.Test.YtnodeooammplfaaIceBz
import Derived.Test.YtnodeooammplfaaIceBl
import Derived.Test.YtnodeooammplfaaIceLossesW
namespace Go.Proofs.Ytnodeooammplfaa
open Go.RowKit
set_option linter.unusedSimpArgs false
set_option linter.unusedVariables false

def wideB (Es : List (List Int)) : Bool := anyF (fun k => decide (60 < (lx Es k).length)) Es.length || decide (40 < Es.length)
set_option maxHeartbeats 2000000 in
theorem Wide_any (A : Option Addr) (c : Nat) (Es : List (List Int)) (w : World) (hr : RdL w w.heap.size A Es) (hl : Es.length ≤ 9223372036854775807) (hls : ∀ k, k < Es.length → (lx Es k).length ≤ 9223372036854775807) :
    Calls Try.prog 44 #[.slice A Es.length c] w fun e w' => e = .returned (.bool (wideB Es)) ∧ w' = w := by
  have HR := Lib.hid hr
  have HLS := Lib.hid hls
  have HY : Hid (∀ j, j < Es.length → 60 < (lx Es j).length → wideB Es = true) := Lib.hid (fun j hj h => by
    unfold wideB
    rw [Bool.or_eq_true]; left
    cases hq : anyF (fun k => decide (60 < (lx Es k).length)) Es.length
    · have := anyF_no.1 hq j hj
      rw [decide_eq_false_iff_not] at this
      exact absurd h this
    · rfl)
  have HN : Hid ((∀ j, j < Es.length → ¬ 60 < (lx Es j).length) → wideB Es = decide (40 < Es.length)) := Lib.hid (fun h => by
    unfold wideB
    rw [anyF_no.2 (fun k hk => decide_eq_false (h k hk)), Bool.false_or])
  clear hr hls
  generalize wideB Es = r at *
  go_enter Try.func44, Try.ntmps44
  go_wp2
  go_loopg [3] Es.length (fun k t wr => ∃ i : Nat, t = .int .i64 i ∧ i ≤ Es.length ∧ Es.length - i ≤ k ∧ wr = w ∧ Aside (∀ j, j < i → ¬ 60 < (lx Es j).length))
  case atStart => exact ⟨0, rfl, by omega, by omega, rfl, (fun j hj => absurd hj (Nat.not_lt_zero j) : ∀ j, j < 0 → ¬ 60 < (lx Es j).length)⟩
  case round =>
    obtain ⟨i, rfl, hi, hk, rfl, HA⟩ := hrel
    by_cases hlt : i < Es.length
    · obtain ⟨b, o, A1, c1, rfl, hb, ce, _⟩ := HR.out.at_ (k := i) hlt
      have hltI : (i : Int) < (Es.length : Int) := by omega
      have hln := HLS.out i hlt
      have HYI := Lib.hid (HY.out i hlt)
      have HI := Lib.hid (And.intro hlt hk)
      generalize hm : (lx Es i).length = m at *
      have HM := Lib.hid hm
      clear hm
      by_cases h60 : 60 < m
      · have h61 : decide ((60 : Int) < (m : Int)) = true := by rw [decide_eq_true_eq]; omega
        have h62 := HYI.out h60
        subst h62
        go_wp2
        go_ret
        exact ⟨rfl, rfl⟩
      · have h61 : decide ((60 : Int) < (m : Int)) = false := by rw [decide_eq_false_iff_not]; omega
        have H6 := Lib.hid h60
        go_wp2
        go_roundg (Es.length - (i + 1))
        case measure => have := HI.out; omega
        case rel => exact ⟨i + 1, by have := HI.out; go_num, by have := HI.out; omega, by have := HI.out; omega, rfl, (fun j hj => by
          rcases Nat.lt_succ_iff_lt_or_eq.1 hj with h | rfl
          · exact HA.out j h
          · rw [HM.out]; exact H6.out : ∀ j, j < i + 1 → ¬ 60 < (lx Es j).length)⟩
    · obtain rfl : i = Es.length := by omega
      have hltI : ¬ (Es.length : Int) < (Es.length : Int) := by omega
      have h62 := HN.out HA.out
      generalize Es.length = n at *
      go_wp2
      go_ret
      refine ⟨?_, rfl⟩
      show Ending.returned (.bool (decide ((40 : Int) < (n : Int)))) = .returned (.bool _)
      congr 2
      first | (rw [h62, decide_eq_decide]; omega) | (rw [decide_eq_decide]; omega)
theorem wideB_no {Es : List (List Int)} (h : wideB Es = false) : Es.length ≤ 40 ∧ ∀ k, k < Es.length → (lx Es k).length ≤ 60 := by
  unfold wideB at h
  rw [Bool.or_eq_false_iff, decide_eq_false_iff_not, anyF_no] at h
  exact ⟨by omega, fun k hk => by have := h.1 k hk; rw [decide_eq_false_iff_not] at this; omega⟩
theorem BetV_three (E : Int) (V : List Int) : ∃ x y z : Int, BetV E V = .tuple #[.int .i64 x, .int .i64 y, .int .i64 z] := by unfold BetV; split <;> exact ⟨_, _, _, rfl⟩
theorem CleV_two (E : Int) (V : List Int) : ∃ x y : Int, CleV E V = .tuple #[.int .i64 x, .int .i64 y] := by unfold CleV; split <;> exact ⟨_, _, rfl⟩

set_option maxRecDepth 100000 in
set_option maxHeartbeats 4000000 in
theorem IceBetweens_walk (w : World) (A : Option Addr) (c : Nat) (L : List (Int × Int)) (hr : RdP w w.heap.size A L) (_hm : L.length ≤ maxLen) (A2 : Option Addr) (c2 : Nat) (Es : List (List Int)) (hr2 : RdL w w.heap.size A2 Es ∧ ∀ l ∈ Es, l.length ≤ maxLen) (_hm2 : Es.length ≤ maxLen) (a b : Int) (_hs : (Lit.int .i64 a).wf = true ∧ (Lit.int .i64 b).wf = true) :
    Calls Try.prog 9 #[.slice A L.length c, .slice A2 Es.length c2, .agg #[.int .i64 a, .int .i64 b]] w fun e w' => e = .returned (.bool true) ∧ Below w.heap.size w w' := by
  have hB0 := below_alloc w (.cells #[.int .i64 a, .int .i64 b] 49)
  have hbx := Box.new w 49 #[.int .i64 a, .int .i64 b]
  have HR := Lib.hid (hr.on hB0)
  have HR2 := Lib.hid (hr2.1.on hB0)
  have hes : Es.length ≤ 9223372036854775807 := by have := _hm2; unfold maxLen at this; omega
  have hls : ∀ k, k < Es.length → (lx Es k).length ≤ 9223372036854775807 := fun k hk => by
    have := hr2.2 (lx Es k) (by unfold lx; rw [List.getD_eq_getElem?_getD, List.getElem?_eq_getElem hk]; exact List.getElem_mem hk)
    unfold maxLen at this
    omega
  have HWI := Lib.hid (Wide_any A2 c2 Es (w.alloc (.cells #[.int .i64 a, .int .i64 b] 49)) HR2.out hes hls)
  clear hr hr2 _hs hls
  have HB0 := Lib.hid hB0
  have HBX := Lib.hid hbx
  clear hB0 hbx
  by_cases hl : L.length ≤ 60
  · have hd : decide ((60 : Int) < L.length) = false := by simp; omega
    cases hw : wideB Es
    · rw [hw] at HWI
      have hno := wideB_no hw
      have h3 : ∀ W, Below (w.alloc (.cells #[.int .i64 a, .int .i64 b] 49)).heap.size (w.alloc (.cells #[.int .i64 a, .int .i64 b] 49)) W → Calls Try.prog 87 #[.slice A L.length c, .slice A2 Es.length c2, .int .i64 a, .int .i64 b] W (LosQ (LosE L Es a b) (LosL L Es a b) W) := fun W hW => losses_any A A2 c c2 L Es a b W (HR.out.on hW) (by omega) (HR2.out.on hW) (by omega) (fun k hk => by have := hno.2 k hk; omega)
      have h4 : ∀ W, Below (w.alloc (.cells #[.int .i64 a, .int .i64 b] 49)).heap.size (w.alloc (.cells #[.int .i64 a, .int .i64 b] 49)) W → Calls Try.prog 90 #[.slice A L.length c, .slice A2 Es.length c2, .int .i64 a, .int .i64 b] W (LosQ (LosE L Es a b) (LosL L Es a b) W) := fun W hW => reflosses_any A A2 c c2 L Es a b W (HR.out.on hW) (by omega) (HR2.out.on hW) (by omega) (fun k hk => by have := hno.2 k hk; omega)
      have hV := LosL_len (L := L) (Es := Es) (x := a) (y := b)
      have H1 := Lib.hid (fun W hW => Between_of _ _ _ _ _ _ W hV.1 (by omega) (h3 W hW))
      have H2 := Lib.hid (fun W hW => refBetween_of _ _ _ _ _ _ W hV.1 (by omega) (h4 W hW))
      have H3 := Lib.hid (fun W hW => Clearest_of _ _ _ _ _ _ W hV.1 (by omega) (h3 W hW))
      have H4 := Lib.hid (fun W hW => refClearest_of _ _ _ _ _ _ W hV.2.2 (by omega) (h4 W hW))
      clear h3 h4 hV hno hw
      obtain ⟨x1, x2, x3, e1⟩ := BetV_three (LosE L Es a b) (LosL L Es a b)
      obtain ⟨y1, y2, e2⟩ := CleV_two (LosE L Es a b) (LosL L Es a b)
      rw [e1] at H1 H2
      rw [e2] at H3 H4
      clear e1 e2
      have HCE := Lib.hid (fun W (hW : Below (w.alloc (.cells #[.int .i64 a, .int .i64 b] 49)).heap.size (w.alloc (.cells #[.int .i64 a, .int .i64 b] 49)) W) => And.intro ((HBX.out.on hW).cell 0) ((HBX.out.on hW).cell 1))
      obtain ⟨g0, g1⟩ := HCE.out _ (Below.refl _ _)
      have HBW := Lib.hid (Below.refl (w.alloc (.cells #[.int .i64 a, .int .i64 b] 49)).heap.size (w.alloc (.cells #[.int .i64 a, .int .i64 b] 49)))
      clear HBX
      generalize L.length = n at *
      generalize Es.length = m at *
      go_enter Try.func9, Try.ntmps9
      go_wp2_with (first
        | (go_at_call 16; refine (Long_any _ _ _ _).mono ?_; rintro e w' ⟨rfl, rfl⟩)
        | (go_at_call 44; refine HWI.out.mono ?_; rintro e w' ⟨rfl, rfl⟩)
        | (go_at_call 45; refine (H1.out _ HBW.out).mono ?_; rintro e w1 ⟨rfl, h1⟩; obtain ⟨k0, k1⟩ := HCE.out _ h1)
        | (go_at_call 46; refine (H2.out _ h1).mono ?_; rintro e w2 ⟨rfl, h2'⟩; have h2 := h1.trs h2'; obtain ⟨l0, l1⟩ := HCE.out _ h2)
        | (go_at_call 47; refine (H3.out _ h2).mono ?_; rintro e w3 ⟨rfl, h3'⟩; have h3 := h2.trs h3'; obtain ⟨m0, m1⟩ := HCE.out _ h3)
        | (go_at_call 48; refine (H4.out _ h3).mono ?_; rintro e w4 ⟨rfl, h4'⟩; have h4 := h3.trs h4')
        | (go_at_call 17; refine (Sane_any _).mono ?_; rintro e w10 ⟨rfl, h10⟩))
      go_ret
      exact ⟨by first | rfl | simp, (HB0.out.trs h4).trs h10⟩
    · rw [hw] at HWI
      clear hw
      generalize L.length = n at *
      generalize Es.length = m at *
      go_enter Try.func9, Try.ntmps9
      go_wp2_with (first
        | (go_at_call 16; refine (Long_any _ _ _ _).mono ?_; rintro e w' ⟨rfl, rfl⟩)
        | (go_at_call 44; refine HWI.out.mono ?_; rintro e w' ⟨rfl, rfl⟩)
        | (go_at_call 17; refine (Sane_any _).mono ?_; rintro e w10 ⟨rfl, h10⟩))
      go_ret
      exact ⟨rfl, HB0.out.trs h10⟩
  · have hd : decide ((60 : Int) < L.length) = true := by simp; omega
    go_enter Try.func9, Try.ntmps9
    go_wp2_with (first
      | (go_at_call 16; refine (Long_any _ _ _ _).mono ?_; rintro e w' ⟨rfl, rfl⟩)
      | (go_at_call 17; refine (Sane_any _).mono ?_; rintro e w10 ⟨rfl, h10⟩))
    go_ret
    exact ⟨rfl, HB0.out.trs h10⟩
end Go.Proofs.Ytnodeooammplfaa
