/- Walks over alert and its reference: the longest stretch of work; Urgent, Can, Undone of the reference; lists that are the same. -/
import Derived.Test.YtdafiblnanpiiaaAlRef
namespace Go.Proofs.Ytdafiblnanpiiaa
open Go.RowKit
set_option linter.unusedSimpArgs false
set_option linter.unusedVariables false

theorem endR_is {p : List Int} {x y : Nat} (hx : x ≤ 100) (h1 : x ≤ y) (h2 : y ≤ 100) (hb : busyR p x y) (he : y = 100 ∨ ix p y = -1) : y = endR p x (100 - x) := by
  obtain ⟨i1, i2, i3, i4⟩ := endR_spec p x (100 - x)
  rcases Nat.lt_trichotomy y (endR p x (100 - x)) with h | h | h
  · rcases he with he | he
    · omega
    · exact absurd he (i3 y h1 h)
  · exact h
  · have := i4 (by omega)
    exact absurd this (hb _ i1 h)
def LonV (L : List (Int × Int × Int)) : Value := if vldT L then .tuple #[.int .i64 (lonR (urg L) 100).1, .int .i64 (lonR (urg L) 100).2, .int .i64 0] else .tuple #[.int .i64 0, .int .i64 0, .int .i64 80]
theorem LonV_no {L : List (Int × Int × Int)} (h : vldT L = false) : LonV L = .tuple #[.int .i64 0, .int .i64 0, .int .i64 80] := by unfold LonV; rw [h]; rfl
theorem LonV_yes {L : List (Int × Int × Int)} (h : vldT L = true) : LonV L = .tuple #[.int .i64 (lonR (urg L) 100).1, .int .i64 (lonR (urg L) 100).2, .int .i64 0] := by unfold LonV; rw [h]; rfl
theorem urg_ge (L : List (Int × Int × Int)) (m : Nat) (hm : m < 100) : -1 ≤ ix (urg L) m := ((plnB_iff.1 (urg_pln (L := L))).2 m hm).1

set_option maxRecDepth 100000 in
set_option maxHeartbeats 8000000 in
theorem Longest_any (A : Option Addr) (c : Nat) (L : List (Int × Int × Int)) (w : World) (hr : RdT w w.heap.size A L) (hl : L.length ≤ 1125899906842624) :
    Calls Try.prog 39 #[.slice A L.length c] w fun e w' => e = .returned (LonV L) ∧ Below w.heap.size w w' := by
  have HV := Lib.hid (Valid_any A c L w hr hl)
  have HU := Lib.hid (fun (hv : vldT L = true) W (hW : Below w.heap.size w W) => urgent_any A c L W (hr.on hW) (okT_of hv))
  have H1 := Lib.hid (@LonV_no L)
  have H2 := Lib.hid (@LonV_yes L)
  clear hr
  cases hv : vldT L <;> rw [hv] at HV
  · have HV2 := Lib.hid hv; clear hv HU H2
    generalize LonV L = lv at *
    generalize L.length = n at *
    go_enter Try.func39, Try.ntmps39
    go_wp2_with (go_at_call 49; refine HV.out.mono ?_; rintro e w' ⟨rfl, hB⟩)
    refine bodyPost_ret (v := .tuple #[.int .i64 0, .int .i64 0, .int .i64 80]) (by simp [results, Try.results39, go_sem]) rfl ⟨by rw [H1.out HV2.out], hB⟩
  · have HV2 := Lib.hid hv
    have HU2 := Lib.hid (HU.out hv)
    have hlen := urg_len L
    have HVI : Hid (∀ m, m < 100 → (((urg L).map (Value.int .i64)).toArray)[m]? = some (.int .i64 (ix (urg L) m))) := Lib.hid (fun m hm => by simp [ix, hm, hlen])
    have HS : Hid (∀ m, lonS (urg L) (m + 1) = if ix (urg L) m = -1 then (m + 1, (lonS (urg L) m).2) else if (lonS (urg L) m).2.2 - (lonS (urg L) m).2.1 < m + 1 - (lonS (urg L) m).1 then ((lonS (urg L) m).1, (lonS (urg L) m).1, m + 1) else lonS (urg L) m) := Lib.hid (fun _ => rfl)
    have HI : Hid (∀ m, (lonS (urg L) m).1 ≤ m ∧ (lonS (urg L) m).2.2 ≤ m ∧ (lonS (urg L) m).2.1 ≤ (lonS (urg L) m).2.2) := Lib.hid (fun m => by
      obtain ⟨a, _, _, b, d⟩ := lonS_inv (urg L) m
      exact ⟨a, b, d.ord⟩)
    have H0 : Hid (lonS (urg L) 0 = (0, 0, 0)) := Lib.hid rfl
    have HE := Lib.hid (lon_same (urg L))
    have HLV := Lib.hid (H2.out hv)
    clear hv HU H1 H2 hlen
    generalize LonV L = lv at *
    generalize ((urg L).map (Value.int .i64)).toArray = V at *
    generalize lonR (urg L) 100 = lr at *
    generalize lonS (urg L) = ls at *
    generalize urg L = pl at *
    generalize L.length = n at *
    go_enter Try.func39, Try.ntmps39
    go_wp2_with (first
      | (go_at_call 49; refine HV.out.mono ?_; rintro e w1 ⟨rfl, h1⟩)
      | (go_at_call 74; refine (HU2.out _ h1).mono ?_; rintro e w2 ⟨rfl, h2⟩))
    go_loopg [2, 3, 5, 13] 100 (fun k s2 s3 s5 t wr => ∃ m : Nat, s2 = .int .i64 (ls m).2.1 ∧ s3 = .int .i64 (ls m).2.2 ∧ s5 = .int .i64 (ls m).1 ∧ t = .int .i64 m ∧ m ≤ 100 ∧ 100 - m ≤ k ∧ w2 = wr)
    case atStart => exact ⟨0, by rw [H0.out]; rfl, by rw [H0.out]; rfl, by rw [H0.out]; rfl, rfl, by omega, by omega, rfl⟩
    case round =>
      obtain ⟨m, t2, t3, t5, rfl, hm, hk, rfl⟩ := hrel
      obtain ⟨AA, hAA⟩ : ∃ AA : Int, AA = ((ls m).2.1 : Int) := ⟨_, rfl⟩
      obtain ⟨BB, hBB⟩ : ∃ BB : Int, BB = ((ls m).2.2 : Int) := ⟨_, rfl⟩
      obtain ⟨FR, hFR⟩ : ∃ FR : Int, FR = ((ls m).1 : Int) := ⟨_, rfl⟩
      rw [← hAA] at t2
      rw [← hBB] at t3
      rw [← hFR] at t5
      subst t2; subst t3; subst t5
      obtain ⟨i1, i2, i3⟩ := HI.out m
      have hA0 : 0 ≤ AA := by omega
      have hAB : AA ≤ BB := by omega
      have hB1 : BB ≤ (m : Int) := by omega
      have hF0 : 0 ≤ FR := by omega
      have hF1 : FR ≤ (m : Int) := by omega
      by_cases hlm : m < 100
      · have hdm : decide ((m : Int) < 100) = true := by rw [decide_eq_true_eq]; omega
        have HVX := Lib.hid (index_plan V m _ hlm (HVI.out m hlm))
        have hS := HS.out m
        generalize ix pl m = b at *
        have hcase : (b = -1 ∧ ls (m + 1) = (m + 1, (ls m).2)) ∨ (b ≠ -1 ∧ BB - AA < (m : Int) + 1 - FR ∧ ls (m + 1) = ((ls m).1, (ls m).1, m + 1)) ∨ (b ≠ -1 ∧ ¬ BB - AA < (m : Int) + 1 - FR ∧ ls (m + 1) = ls m) := by
          by_cases e1 : b = -1
          · exact .inl ⟨e1, by rw [hS, if_pos e1]⟩
          · rw [if_neg e1] at hS
            by_cases e2 : BB - AA < (m : Int) + 1 - FR
            · exact .inr (.inl ⟨e1, e2, by rw [hS, if_pos (by omega)]⟩)
            · exact .inr (.inr ⟨e1, e2, by rw [hS, if_neg (by omega)]⟩)
        have HAA := Lib.hid (And.intro hAA (And.intro hBB hFR))
        clear hS hAA hBB hFR i1 i2 i3
        rcases hcase with ⟨e1, e2⟩ | ⟨e1, e3, e2⟩ | ⟨e1, e3, e2⟩
        · have d1 : (b == -1) = true := by rw [e1]; rfl
          have HS2 := Lib.hid e2
          clear e1 e2
          go_wp2_with (rw [HVX.out])
          go_roundg (100 - (m + 1))
          case measure => omega
          case rel => exact ⟨m + 1, by rw [HS2.out, HAA.out.1], by rw [HS2.out, HAA.out.2.1], by rw [HS2.out]; first | done | go_num, by go_num, by omega, by omega, rfl⟩
        · have d1 : (b == -1) = false := by rw [beq_eq_false_iff_ne]; exact e1
          have d2 : decide (BB - AA < (m : Int) + 1 - FR) = true := by rw [decide_eq_true_eq]; exact e3
          have HS2 := Lib.hid e2
          clear e1 e2 e3
          go_wp2_with (rw [HVX.out])
          go_roundg (100 - (m + 1))
          case measure => omega
          case rel => exact ⟨m + 1, by rw [HS2.out, HAA.out.2.2], by rw [HS2.out]; first | done | go_num, by rw [HS2.out, HAA.out.2.2], by go_num, by omega, by omega, rfl⟩
        · have d1 : (b == -1) = false := by rw [beq_eq_false_iff_ne]; exact e1
          have d2 : decide (BB - AA < (m : Int) + 1 - FR) = false := by rw [decide_eq_false_iff_not]; exact e3
          have HS2 := Lib.hid e2
          clear e1 e2 e3
          go_wp2_with (rw [HVX.out])
          go_roundg (100 - (m + 1))
          case measure => omega
          case rel => exact ⟨m + 1, by rw [HS2.out, HAA.out.1], by rw [HS2.out, HAA.out.2.1], by rw [HS2.out, HAA.out.2.2], by go_num, by omega, by omega, rfl⟩
      · obtain rfl : m = 100 := by omega
        have HAA := Lib.hid (And.intro hAA hBB)
        clear hAA hBB hFR i1 i2 i3
        go_wp2
        refine bodyPost_ret (v := .tuple #[.int .i64 AA, .int .i64 BB, .int .i64 0]) (by simp [results, Try.results39, go_sem]) rfl ⟨by rw [HLV.out, ← HE.out, HAA.out.1, HAA.out.2], h1.trs h2⟩

set_option maxRecDepth 100000 in
set_option maxHeartbeats 8000000 in
theorem refLongest_any (A : Option Addr) (c : Nat) (L : List (Int × Int × Int)) (w : World) (hr : RdT w w.heap.size A L) (hl : L.length ≤ 1125899906842624) :
    Calls Try.prog 40 #[.slice A L.length c] w fun e w' => e = .returned (LonV L) ∧ Below w.heap.size w w' := by
  have HV := Lib.hid (refValid_any A c L w hr hl)
  have HU := Lib.hid (fun (hv : vldT L = true) W (hW : Below w.heap.size w W) => refurgent_any A c L W (hr.on hW) (okT_of hv))
  have H1 := Lib.hid (@LonV_no L)
  have H2 := Lib.hid (@LonV_yes L)
  clear hr
  cases hv : vldT L <;> rw [hv] at HV
  · have HV2 := Lib.hid hv; clear hv HU H2
    generalize LonV L = lv at *
    generalize L.length = n at *
    go_enter Try.func40, Try.ntmps40
    go_wp2_with (go_at_call 22; refine HV.out.mono ?_; rintro e w' ⟨rfl, hB⟩)
    refine bodyPost_ret (v := .tuple #[.int .i64 0, .int .i64 0, .int .i64 80]) (by simp [results, Try.results40, go_sem]) rfl ⟨by rw [H1.out HV2.out], hB⟩
  · have HV2 := Lib.hid hv
    have HU2 := Lib.hid (HU.out hv)
    have HGE := Lib.hid (urg_ge L)
    have HLEN := Lib.hid (urg_len L)
    have HEI := Lib.hid (fun x y => endR_is (p := urg L) (x := x) (y := y))
    have HS : Hid (∀ x, lonR (urg L) (x + 1) = if (lonR (urg L) x).2 - (lonR (urg L) x).1 < endR (urg L) x (100 - x) - x then (x, endR (urg L) x (100 - x)) else lonR (urg L) x) := Lib.hid (fun _ => rfl)
    have HI : Hid (∀ x, x ≤ 100 → (lonR (urg L) x).2 ≤ 100 ∧ (lonR (urg L) x).1 ≤ (lonR (urg L) x).2) := Lib.hid (fun x hx => by
      obtain ⟨a, _, b⟩ := lonR_inv (urg L) x hx
      exact ⟨a, b.ord⟩)
    have H0 : Hid (lonR (urg L) 0 = (0, 0)) := Lib.hid rfl
    have HLV := Lib.hid (H2.out hv)
    clear hv HU H1 H2
    generalize LonV L = lv at *
    generalize lonR (urg L) = lr at *
    generalize urg L = pl at *
    generalize L.length = n at *
    go_enter Try.func40, Try.ntmps40
    go_wp2_with (first
      | (go_at_call 22; refine HV.out.mono ?_; rintro e w1 ⟨rfl, h1⟩)
      | (go_at_call 77; refine (HU2.out _ h1).mono ?_; rintro e w2 ⟨A2, c2, rfl, h2, hr2⟩; have HR2 := Lib.hid hr2; clear hr2))
    go_loopg [2, 3, 6] 100 (fun k s2 s3 t wr => ∃ x : Nat, s2 = .int .i64 (lr x).1 ∧ s3 = .int .i64 (lr x).2 ∧ t = .int .i64 x ∧ x ≤ 100 ∧ 100 - x ≤ k ∧ w2 = wr)
    case atStart => exact ⟨0, by rw [H0.out]; rfl, by rw [H0.out]; rfl, rfl, by omega, by omega, rfl⟩
    case round =>
      obtain ⟨x, t2, t3, rfl, hx, hk, rfl⟩ := hrel
      obtain ⟨AA, hAA⟩ : ∃ AA : Int, AA = ((lr x).1 : Int) := ⟨_, rfl⟩
      obtain ⟨BB, hBB⟩ : ∃ BB : Int, BB = ((lr x).2 : Int) := ⟨_, rfl⟩
      rw [← hAA] at t2
      rw [← hBB] at t3
      subst t2; subst t3
      obtain ⟨i2, i3⟩ := HI.out x hx
      have hA0 : 0 ≤ AA := by omega
      have hAB : AA ≤ BB := by omega
      have hB1 : BB ≤ 100 := by omega
      have HAA := Lib.hid (And.intro hAA hBB)
      clear hAA hBB i2 i3
      by_cases hlx : x < 100
      · have hdx : decide ((x : Int) < 100) = true := by rw [decide_eq_true_eq]; omega
        go_wp2
        go_loopg [7] (100 - x) (fun k t wi => ∃ y : Nat, t = .int .i64 y ∧ x ≤ y ∧ y ≤ 100 ∧ 100 - y ≤ k ∧ Aside (busyR pl x y) ∧ w2 = wi)
        case atStart => exact ⟨x, rfl, Nat.le_refl _, by omega, by omega, (fun m h1 h2 => by omega : busyR pl x x), rfl⟩
        case round =>
          obtain ⟨y, rfl, hxy, hy, hky, HBU, rfl⟩ := hrel
          have HEIy := Lib.hid (fun he => HEI.out x y hx hxy hy HBU.out he)
          have fin : (ix pl y = -1 ∨ y = 100) → y = endR pl x (100 - x) := fun h => HEIy.out (h.symm)
          have HFin := Lib.hid fin
          clear fin
          by_cases hly : y < 100
          · have hdy : decide ((y : Int) < 100) = true := by rw [decide_eq_true_eq]; omega
            obtain ⟨b2, o2, rfl, hb2, d1⟩ := HR2.out.at_ (k := y) (by rw [HLEN.out]; exact hly)
            have hge := HGE.out y hly
            generalize hiy : ix pl y = b at *
            have HIY := Lib.hid hiy
            clear hiy
            by_cases e1 : 0 ≤ b
            · have d2 : decide (0 ≤ b) = true := by rw [decide_eq_true_eq]; exact e1
              have HE1 := Lib.hid e1
              clear e1 hge
              go_wp2
              go_roundg (100 - (y + 1))
              case measure => omega
              case rel => exact ⟨y + 1, by go_num, by omega, by omega, by omega, (fun m g1 g2 => by
                rcases Nat.lt_succ_iff_lt_or_eq.1 g2 with h | rfl
                · exact HBU.out m g1 h
                · have := HE1.out; have := HIY.out; omega : busyR pl x (y + 1)), rfl⟩
            · have d2 : decide (0 ≤ b) = false := by rw [decide_eq_false_iff_not]; exact e1
              have hye := HFin.out (.inl (by omega))
              have hS := HS.out x
              rw [← hye] at hS
              have hcase : (BB - AA < (y : Int) - x ∧ lr (x + 1) = (x, y)) ∨ (¬ BB - AA < (y : Int) - x ∧ lr (x + 1) = lr x) := by
                have q1 := HAA.out.1
                have q2 := HAA.out.2
                by_cases e2 : BB - AA < (y : Int) - x
                · exact .inl ⟨e2, by rw [hS, if_pos (by omega)]⟩
                · exact .inr ⟨e2, by rw [hS, if_neg (by omega)]⟩
              clear hS hye e1 hge HFin HEIy
              rcases hcase with ⟨e3, e4⟩ | ⟨e3, e4⟩
              · have d3 : decide (BB - AA < (y : Int) - x) = true := by rw [decide_eq_true_eq]; exact e3
                have HS2 := Lib.hid e4
                clear e3 e4
                go_wp2
                go_roundg (100 - (x + 1))
                case measure => omega
                case rel => exact ⟨x + 1, by rw [HS2.out], by rw [HS2.out], by go_num, by omega, by omega, rfl⟩
              · have d3 : decide (BB - AA < (y : Int) - x) = false := by rw [decide_eq_false_iff_not]; exact e3
                have HS2 := Lib.hid e4
                clear e3 e4
                go_wp2
                go_roundg (100 - (x + 1))
                case measure => omega
                case rel => exact ⟨x + 1, by rw [HS2.out, HAA.out.1], by rw [HS2.out, HAA.out.2], by go_num, by omega, by omega, rfl⟩
          · have hy1 : y = 100 := by omega
            subst hy1
            have hye := HFin.out (.inr rfl)
            have hS := HS.out x
            rw [← hye] at hS
            have hcase : (BB - AA < 100 - (x : Int) ∧ lr (x + 1) = (x, 100)) ∨ (¬ BB - AA < 100 - (x : Int) ∧ lr (x + 1) = lr x) := by
              have q1 := HAA.out.1
              have q2 := HAA.out.2
              by_cases e2 : BB - AA < 100 - (x : Int)
              · exact .inl ⟨e2, by rw [hS, if_pos (by omega)]⟩
              · exact .inr ⟨e2, by rw [hS, if_neg (by omega)]⟩
            clear hS hye HFin HEIy
            rcases hcase with ⟨e3, e4⟩ | ⟨e3, e4⟩
            · have d3 : decide (BB - AA < 100 - (x : Int)) = true := by rw [decide_eq_true_eq]; exact e3
              have HS2 := Lib.hid e4
              clear e3 e4
              go_wp2
              go_roundg (100 - (x + 1))
              case measure => omega
              case rel => exact ⟨x + 1, by rw [HS2.out], by rw [HS2.out]; first | done | rfl, by go_num, by omega, by omega, rfl⟩
            · have d3 : decide (BB - AA < 100 - (x : Int)) = false := by rw [decide_eq_false_iff_not]; exact e3
              have HS2 := Lib.hid e4
              clear e3 e4
              go_wp2
              go_roundg (100 - (x + 1))
              case measure => omega
              case rel => exact ⟨x + 1, by rw [HS2.out, HAA.out.1], by rw [HS2.out, HAA.out.2], by go_num, by omega, by omega, rfl⟩
      · obtain rfl : x = 100 := by omega
        go_wp2
        refine bodyPost_ret (v := .tuple #[.int .i64 AA, .int .i64 BB, .int .i64 0]) (by simp [results, Try.results40, go_sem]) rfl ⟨by rw [HLV.out, HAA.out.1, HAA.out.2], h1.trs h2⟩
end Go.Proofs.Ytdafiblnanpiiaa
