/- Between and Clearest, both packages, over what 'losses' returns. -/
import Derived.Test.YtnodeooammplfaaLibMi
import Derived.OwnWalk
import Derived.Deep.Cut
namespace Go.Proofs.Ytnodeooammplfaa
open Go.RowKit
set_option linter.unusedSimpArgs false
set_option linter.unusedVariables false

/-- what 'losses' returns -/
def LosQ (E : Int) (V : List Int) (w : World) (e : Ending) (w' : World) : Prop :=
  Below w.heap.size w w' ∧ ∃ A c, e = .returned (.tuple #[.slice A V.length c, .int .i64 E]) ∧ RdI w' w'.heap.size A V
noncomputable def BetV (E : Int) (V : List Int) : Value := if E = 0 then .tuple #[.int .i64 (mnL V V.length), .int .i64 (mxL V V.length), .int .i64 0] else .tuple #[.int .i64 0, .int .i64 0, .int .i64 E]
noncomputable def CleV (E : Int) (V : List Int) : Value := if E = 0 then .tuple #[.int .i64 (bsL V V.length), .int .i64 0] else .tuple #[.int .i64 0, .int .i64 E]

set_option maxHeartbeats 4000000 in
theorem Between_of (v0 v1 v2 v3 : Value) (E : Int) (V : List Int) (w : World) (hE : E = 0 → 1 ≤ V.length) (hl : V.length ≤ 1000000) (hL : Calls Try.prog 87 #[v0, v1, v2, v3] w (LosQ E V w)) :
    Calls Try.prog 45 #[v0, v1, v2, v3] w fun e w' => e = .returned (BetV E V) ∧ Below w.heap.size w w' := by
  have HL := Lib.hid hL
  have HM := Lib.hid (fun A c W h h0 => Min_any A c V W h h0 hl)
  have HX := Lib.hid (fun A c W h h0 => Max_any A c V W h h0 hl)
  have HV : Hid (BetV E V = if E = 0 then .tuple #[.int .i64 (mnL V V.length), .int .i64 (mxL V V.length), .int .i64 0] else .tuple #[.int .i64 0, .int .i64 0, .int .i64 E]) := Lib.hid rfl
  unfold LosQ at HL
  clear hL
  generalize BetV E V = R at *
  by_cases h0 : E = 0
  · have HN := Lib.hid (hE h0)
    subst h0
    rw [if_pos rfl] at HV
    clear hE
    generalize mnL V V.length = mn at *
    generalize mxL V V.length = mx at *
    generalize V.length = n at *
    go_enter Try.func45, Try.ntmps45
    go_wp2_with (first
      | (go_at_call 87; refine HL.out.mono ?_; rintro e w1 ⟨h1, A1, c1, rfl, hr1⟩)
      | (go_at_call 88; refine (HM.out _ _ _ hr1 HN.out).mono ?_; rintro e w' ⟨rfl, rfl⟩)
      | (go_at_call 89; refine (HX.out _ _ _ hr1 HN.out).mono ?_; rintro e w' ⟨rfl, rfl⟩))
    go_ret3
    exact ⟨by rw [HV.out]; first | done | rfl, h1⟩
  · have hne : (E != 0) = true := by rw [bne_iff_ne]; exact h0
    rw [if_neg h0] at HV
    clear hE h0
    generalize V.length = n at *
    go_enter Try.func45, Try.ntmps45
    go_wp2_with (go_at_call 87; refine HL.out.mono ?_; rintro e w1 ⟨h1, A1, c1, rfl, hr1⟩)
    go_ret3
    exact ⟨by rw [HV.out]; first | done | rfl, h1⟩

set_option maxHeartbeats 4000000 in
theorem Clearest_of (v0 v1 v2 v3 : Value) (E : Int) (V : List Int) (w : World) (hE : E = 0 → 1 ≤ V.length) (hl : V.length ≤ 1000000) (hL : Calls Try.prog 87 #[v0, v1, v2, v3] w (LosQ E V w)) :
    Calls Try.prog 47 #[v0, v1, v2, v3] w fun e w' => e = .returned (CleV E V) ∧ Below w.heap.size w w' := by
  have HL := Lib.hid hL
  have HM := Lib.hid (fun A c W h h0 => Min_any A c V W h h0 hl)
  have HX := Lib.hid (fun A c W h (h0 : 1 ≤ V.length) => Index_any A c V (mnL V V.length) (bsL V V.length) W h (bsL_lt V V.length h0) (bsL_at V _) (fun i hi => by have := bsL_first V V.length i hi; omega) hl)
  have HV : Hid (CleV E V = if E = 0 then .tuple #[.int .i64 (bsL V V.length), .int .i64 0] else .tuple #[.int .i64 0, .int .i64 E]) := Lib.hid rfl
  unfold LosQ at HL
  clear hL
  generalize CleV E V = R at *
  by_cases h0 : E = 0
  · have HN := Lib.hid (hE h0)
    subst h0
    rw [if_pos rfl] at HV
    clear hE
    generalize mnL V V.length = mn at *
    generalize bsL V V.length = mx at *
    generalize V.length = n at *
    go_enter Try.func47, Try.ntmps47
    go_wp2_with (first
      | (go_at_call 87; refine HL.out.mono ?_; rintro e w1 ⟨h1, A1, c1, rfl, hr1⟩)
      | (go_at_call 88; refine (HM.out _ _ _ hr1 HN.out).mono ?_; rintro e w' ⟨rfl, rfl⟩)
      | (go_at_call 91; refine (HX.out _ _ _ hr1 HN.out).mono ?_; rintro e w' ⟨rfl, rfl⟩))
    go_ret2
    exact ⟨by rw [HV.out]; first | done | rfl, h1⟩
  · have hne : (E != 0) = true := by rw [bne_iff_ne]; exact h0
    rw [if_neg h0] at HV
    clear hE h0
    generalize V.length = n at *
    go_enter Try.func47, Try.ntmps47
    go_wp2_with (go_at_call 87; refine HL.out.mono ?_; rintro e w1 ⟨h1, A1, c1, rfl, hr1⟩)
    go_ret2
    exact ⟨by rw [HV.out]; first | done | rfl, h1⟩

set_option maxHeartbeats 4000000 in
theorem refBetween_of (v0 v1 v2 v3 : Value) (E : Int) (V : List Int) (w : World) (hE : E = 0 → 1 ≤ V.length) (hl : V.length ≤ 1000000) (hL : Calls Try.prog 90 #[v0, v1, v2, v3] w (LosQ E V w)) :
    Calls Try.prog 46 #[v0, v1, v2, v3] w fun e w' => e = .returned (BetV E V) ∧ Below w.heap.size w w' := by
  have HL := Lib.hid hL
  have HV : Hid (BetV E V = if E = 0 then .tuple #[.int .i64 (mnL V V.length), .int .i64 (mxL V V.length), .int .i64 0] else .tuple #[.int .i64 0, .int .i64 0, .int .i64 E]) := Lib.hid rfl
  unfold LosQ at HL
  clear hL
  generalize BetV E V = R at *
  by_cases h0 : E = 0
  · have HN := Lib.hid (hE h0)
    have hn0 : (0 : Int) < (V.length : Int) := by have := hE h0; omega
    subst h0
    rw [if_pos rfl] at HV
    clear hE
    go_enter Try.func46, Try.ntmps46
    go_wp2_with (go_at_call 90; refine HL.out.mono ?_; rintro e w1 ⟨h1, A1, c1, rfl, hr1⟩; have HR := Lib.hid hr1; obtain ⟨b, o, rfl, hb, c0⟩ := hr1.at_ (k := 0) HN.out; rw [Nat.add_zero] at c0; clear hr1)
    go_quiet (fail)
    have HB := Lib.hid (h1.drewsN nq)
    have HR2 := Lib.hid (HR.out.on ((Below.refl _ _).drewsN nq))
    clear h1 c0
    generalize w1.drewN nq = w2 at *
    go_wp2
    go_loopg [8, 9, 13] V.length (fun k x8 x9 x13 wr => ∃ i : Nat, x13 = .int .i64 i ∧ x8 = .int .i64 (mnL V i) ∧ x9 = .int .i64 (mxL V i) ∧ i ≤ V.length ∧ V.length - i ≤ k ∧ Below w2.heap.size w2 wr)
    case atStart => exact ⟨0, rfl, rfl, rfl, by omega, by omega, Below.refl _ _⟩
    case round =>
      obtain ⟨i, rfl, rfl, rfl, hi, hk, hB⟩ := hrel
      by_cases hlt : i < V.length
      · obtain ⟨b', o', e1, hb', ci⟩ := (HR2.out.on hB).at_ (k := i) hlt
        obtain ⟨rfl, rfl⟩ : b = b' ∧ o = o' := by injection e1 with e1; injection e1 with e1 e2; exact ⟨e1, e2⟩
        have hlt2 : (i : Int) < (V.length : Int) := by omega
        have HMN : Hid (mnL V (i + 1) = if ix V i < mnL V i then ix V i else mnL V i) := Lib.hid rfl
        have HMX : Hid (mxL V (i + 1) = if mxL V i < ix V i then ix V i else mxL V i) := Lib.hid rfl
        have HBB := Lib.hid hB
        clear hB
        generalize ix V i = y at *
        generalize mnL V i = zn at *
        generalize mxL V i = zx at *
        have HLT := Lib.hid hlt
        by_cases hy1 : y < zn <;> by_cases hy2 : zx < y
        all_goals
          first | rw [if_pos hy1] at HMN | rw [if_neg hy1] at HMN
          first | rw [if_pos hy2] at HMX | rw [if_neg hy2] at HMX
          go_upto_region 8 with (fail)
          go_quiet (fail)
          go_wp2
          go_roundg (V.length - (i + 1))
          case measure => omega
          case rel => exact ⟨i + 1, by go_num, by rw [HMN.out], by rw [HMX.out], by omega, by omega, HBB.out.drewsN _⟩
      · obtain rfl : i = V.length := by omega
        have hlt2 : ¬ (V.length : Int) < (V.length : Int) := by omega
        go_wp2
        go_ret3
        exact ⟨by rw [HV.out]; first | done | rfl, HB.out.trs hB⟩
  · have hne : (E != 0) = true := by rw [bne_iff_ne]; exact h0
    rw [if_neg h0] at HV
    clear hE h0
    generalize V.length = n at *
    go_enter Try.func46, Try.ntmps46
    go_wp2_with (go_at_call 90; refine HL.out.mono ?_; rintro e w1 ⟨h1, A1, c1, rfl, hr1⟩)
    go_ret3
    exact ⟨by rw [HV.out]; first | done | rfl, h1⟩

set_option maxHeartbeats 4000000 in
theorem refClearest_of (v0 v1 v2 v3 : Value) (E : Int) (V : List Int) (w : World) (hE : E ≠ 0 → V = []) (hl : V.length ≤ 1000000) (hL : Calls Try.prog 90 #[v0, v1, v2, v3] w (LosQ E V w)) :
    Calls Try.prog 48 #[v0, v1, v2, v3] w fun e w' => e = .returned (CleV E V) ∧ Below w.heap.size w w' := by
  have HL := Lib.hid hL
  have HV : Hid (CleV E V = .tuple #[.int .i64 (bsL V V.length), .int .i64 E]) := Lib.hid (by
    unfold CleV
    by_cases h0 : E = 0
    · rw [if_pos h0, h0]
    · rw [if_neg h0, hE h0]; rfl)
  have HBL := Lib.hid (bsL_lt V)
  unfold LosQ at HL
  clear hL hE
  generalize CleV E V = R at *
  go_enter Try.func48, Try.ntmps48
  go_wp2_with (go_at_call 90; refine HL.out.mono ?_; rintro e w1 ⟨h1, A1, c1, rfl, hr1⟩; have HR := Lib.hid hr1; have HB := Lib.hid h1; clear hr1 h1)
  go_loopg [12, 13] V.length (fun k x12 x13 wr => ∃ i : Nat, x13 = .int .i64 i ∧ x12 = .int .i64 (bsL V i) ∧ i ≤ V.length ∧ V.length - i ≤ k ∧ Below w1.heap.size w1 wr)
  case atStart => exact ⟨0, rfl, rfl, by omega, by omega, Below.refl _ _⟩
  case round =>
    obtain ⟨i, rfl, rfl, hi, hk, hB⟩ := hrel
    by_cases hlt : i < V.length
    · obtain ⟨b, o, rfl, hb, ci⟩ := (HR.out.on hB).at_ (k := i) hlt
      have hbl : bsL V i < V.length := by
        by_cases e : i = 0
        · subst e; simp [bsL]; omega
        · have := HBL.out i (by omega); omega
      obtain ⟨b', o', e1, hb', cj⟩ := (HR.out.on hB).at_ (k := bsL V i) hbl
      obtain ⟨rfl, rfl⟩ : b = b' ∧ o = o' := by injection e1 with e1; injection e1 with e1 e2; exact ⟨e1, e2⟩
      have hlt2 : (i : Int) < (V.length : Int) := by omega
      have hbl2 : ((bsL V i : Nat) : Int) < (V.length : Int) := by omega
      have HBS : Hid (bsL V (i + 1) = if ix V i < ix V (bsL V i) then i else bsL V i) := Lib.hid rfl
      have HBB := Lib.hid hB
      clear hB
      generalize ix V i = y at *
      generalize ix V (bsL V i) = z at *
      generalize bsL V i = t at *
      by_cases hyz : y < z
      · rw [if_pos hyz] at HBS
        have hyz2 : decide (y < z) = true := decide_eq_true hyz
        go_upto_region 6 with (fail)
        go_quiet (fail)
        go_wp2
        go_roundg (V.length - (i + 1))
        case measure => omega
        case rel => exact ⟨i + 1, by go_num, by rw [HBS.out], by omega, by omega, HBB.out.drewsN _⟩
      · rw [if_neg hyz] at HBS
        have hyz2 : decide (y < z) = false := decide_eq_false hyz
        go_upto_region 6 with (fail)
        go_quiet (fail)
        go_wp2
        go_roundg (V.length - (i + 1))
        case measure => omega
        case rel => exact ⟨i + 1, by go_num, by rw [HBS.out], by omega, by omega, HBB.out.drewsN _⟩
    · obtain rfl : i = V.length := by omega
      have hlt2 : ¬ (V.length : Int) < (V.length : Int) := by omega
      go_wp2
      go_ret2
      exact ⟨by rw [HV.out]; first | done | rfl, HB.out.trs hB⟩
end Go.Proofs.Ytnodeooammplfaa
