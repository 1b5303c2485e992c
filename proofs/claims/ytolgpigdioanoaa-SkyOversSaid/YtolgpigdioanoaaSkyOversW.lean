/- The walk of the law SkyOvers. -/
import Derived.Test.YtolgpigdioanoaaSkyLb
namespace Go.Proofs.Ytolgpigdioanoaa
open Go.RowKit
set_option linter.unusedSimpArgs false
set_option linter.unusedVariables false

def gdC (l : List (Int × Int)) : Prop := l.length ≤ 1000 ∧ vldC l = true
set_option maxRecDepth 100000 in
set_option maxHeartbeats 8000000 in
theorem SkyOvers_walk (w : World) (A : Option Addr) (c : Nat) (p : List (Int × Int)) (A2 : Option Addr) (c2 : Nat) (q : List (Int × Int)) (A3 : Option Addr) (c3 : Nat) (r : List (Int × Int))
    (hh : (p.length ≤ maxLen ∧ RdP w w.heap.size A p) ∧ (q.length ≤ maxLen ∧ RdP w w.heap.size A2 q) ∧ r.length ≤ maxLen ∧ RdP w w.heap.size A3 r) :
    Calls Try.prog 11 #[.agg #[.slice A p.length c, .slice A2 q.length c2, .slice A3 r.length c3]] w fun e w' => e = .returned (.bool true) ∧ Below w.heap.size w w' := by
  obtain ⟨⟨-, hr⟩, ⟨-, hr2⟩, -, hr3⟩ := hh
  have hb0 := below_alloc w (.cells #[.slice A p.length c, .slice A2 q.length c2, .slice A3 r.length c3] 51)
  have hx0 := Box.new w 51 #[.slice A p.length c, .slice A2 q.length c2, .slice A3 r.length c3]
  have HX := Lib.hid (And.intro hx0 hb0)
  have HV : Hid (∀ (s : Nat) (A' : Option Addr) (c' : Nat) (l : List (Int × Int)), (s = 0 ∧ A' = A ∧ c' = c ∧ l = p) ∨ (s = 1 ∧ A' = A2 ∧ c' = c2 ∧ l = q) ∨ (s = 2 ∧ A' = A3 ∧ c' = c3 ∧ l = r) → l.length ≤ 1000 → ∀ W, Below w.heap.size w W →
      Calls Try.prog 45 #[.slice A' l.length c'] W fun e w' => e = .returned (.bool (vldC l)) ∧ Below W.heap.size W w') := Lib.hid (by
    rintro s A' c' l (⟨-, rfl, rfl, rfl⟩ | ⟨-, rfl, rfl, rfl⟩ | ⟨-, rfl, rfl, rfl⟩) h1 W hW
    · exact refValid_any _ _ _ _ (hr.on hW) (by omega)
    · exact refValid_any _ _ _ _ (hr2.on hW) (by omega)
    · exact refValid_any _ _ _ _ (hr3.on hW) (by omega))
  have HO : Hid (gdC p → gdC q → gdC r → ∀ b W, Below w.heap.size w W → Calls Try.prog 46 #[.agg #[.slice A p.length c, .slice A2 q.length c2, .slice A3 r.length c3], .bool b] W fun e w' => e = .returned (.bool true) ∧ Below W.heap.size W w') := Lib.hid (fun g1 g2 g3 b W hW =>
    over_any b A c p A2 c2 q A3 c3 r W (hr.on hW) g1.1 (hr2.on hW) g2.1 (hr3.on hW) g3.1 _ _ _ _ _ _ _ _ (overs b g1.2 g2.2 g3.2))
  clear hr hr2 hr3 hb0 hx0
  generalize hn1 : p.length = n1 at *
  generalize hn2 : q.length = n2 at *
  generalize hn3 : r.length = n3 at *
  have HN := Lib.hid (And.intro hn1 (And.intro hn2 hn3))
  clear hn1 hn2 hn3
  go_enter Try.func11, Try.ntmps11
  go_upto_region 1 with (fail)
  generalize hW0 : w.alloc (.cells #[.slice A n1 c, .slice A2 n2 c2, .slice A3 n3 c3] 51) = W0 at *
  clear hW0
  go_wp2
  go_loopg [3] 3 (fun gk t wr => ∃ i : Nat, t = .int .i64 i ∧ i ≤ 3 ∧ 3 - i ≤ gk ∧ Below W0.heap.size W0 wr ∧ Aside ((0 < i → gdC p) ∧ (1 < i → gdC q) ∧ (2 < i → gdC r)))
  case atStart => exact ⟨0, rfl, by omega, by omega, Below.refl _ _, (⟨fun h => absurd h (Nat.lt_irrefl 0), fun h => absurd h (Nat.not_lt_zero 1), fun h => absurd h (Nat.not_lt_zero 2)⟩ : (0 < 0 → gdC p) ∧ (1 < 0 → gdC q) ∧ (2 < 0 → gdC r))⟩
  case round =>
    obtain ⟨i, rfl, hi, hk, hB, HA⟩ := hrel
    have hbx := HX.out.1.on hB
    have q0 := hbx.cell 0; have q1 := hbx.cell 1; have q2 := hbx.cell 2; simp at q0 q1 q2
    have HL := Lib.hid (And.intro hi hk)
    have HG := Lib.hid HA.out
    have HBB := Lib.hid hB
    clear hB HA hk hbx
    have hcase : (i = 3) ∨ ∃ (A' : Option Addr) (c' : Nat) (l : List (Int × Int)) (n : Nat), l.length = n ∧ ((i = 0 ∧ n = n1 ∧ A' = A ∧ c' = c ∧ l = p) ∨ (i = 1 ∧ n = n2 ∧ A' = A2 ∧ c' = c2 ∧ l = q) ∨ (i = 2 ∧ n = n3 ∧ A' = A3 ∧ c' = c3 ∧ l = r)) := by
      have : i = 0 ∨ i = 1 ∨ i = 2 ∨ i = 3 := by omega
      rcases this with rfl | rfl | rfl | rfl
      · exact .inr ⟨_, _, p, _, HN.out.1, .inl ⟨rfl, rfl, rfl, rfl, rfl⟩⟩
      · exact .inr ⟨_, _, q, _, HN.out.2.1, .inr (.inl ⟨rfl, rfl, rfl, rfl, rfl⟩)⟩
      · exact .inr ⟨_, _, r, _, HN.out.2.2, .inr (.inr ⟨rfl, rfl, rfl, rfl, rfl⟩)⟩
      · exact .inl rfl
    clear hi
    rcases hcase with rfl | ⟨A', c', l, n, hln, hcs⟩
    · have HOO := Lib.hid (HO.out (HG.out.1 (by omega)) (HG.out.2.1 (by omega)) (HG.out.2.2 (by omega)))
      go_wp2_with (first
        | (go_at_call 46; have hy := o1; refine (HOO.out _ _ ((HX.out.2.trs HBB.out).trs o1)).mono ?_; rintro e w2 ⟨rfl, o2⟩; have o3 := o1.trs o2)
        | (go_at_call 46; refine (HOO.out _ _ (HX.out.2.trs HBB.out)).mono ?_; rintro e w1 ⟨rfl, o1⟩; have hbx := HX.out.1.on (HBB.out.trs o1); have q0 := hbx.cell 0; have q1 := hbx.cell 1; have q2 := hbx.cell 2; simp at q0 q1 q2)
        | (go_at_call 22; refine (Sane_any _).mono ?_; rintro e w18 ⟨rfl, h18⟩))
      go_ret
      exact ⟨by first | rfl | simp, ((HX.out.2.trs HBB.out).trs o3).trs h18⟩
    · have HVV := Lib.hid (HV.out i A' c' l (by
        rcases hcs with ⟨h1, -, h2⟩ | ⟨h1, -, h2⟩ | ⟨h1, -, h2⟩
        · exact .inl ⟨h1, h2⟩
        · exact .inr (.inl ⟨h1, h2⟩)
        · exact .inr (.inr ⟨h1, h2⟩)))
      rw [hln] at HVV
      have HGN : Hid (gdC l → (0 < i + 1 → gdC p) ∧ (1 < i + 1 → gdC q) ∧ (2 < i + 1 → gdC r)) := Lib.hid (fun hg => by
        obtain ⟨g1, g2, g3⟩ := HG.out
        rcases hcs with ⟨rfl, -, -, -, rfl⟩ | ⟨rfl, -, -, -, rfl⟩ | ⟨rfl, -, -, -, rfl⟩
        · exact ⟨fun _ => hg, fun h => absurd h (by omega), fun h => absurd h (by omega)⟩
        · exact ⟨fun _ => g1 (by omega), fun _ => hg, fun h => absurd h (by omega)⟩
        · exact ⟨fun _ => g1 (by omega), fun _ => g2 (by omega), fun _ => hg⟩)
      clear HV HO
      by_cases hn : n ≤ 1000
      · have d1 : decide ((1000 : Int) < (n : Int)) = false := by rw [decide_eq_false_iff_not]; omega
        have HV2 := Lib.hid (HVV.out hn)
        cases hv : vldC l
        · rw [hv] at HV2
          clear HGN HG hv hln
          rcases hcs with ⟨rfl, rfl, rfl, rfl, rfl⟩ | ⟨rfl, rfl, rfl, rfl, rfl⟩ | ⟨rfl, rfl, rfl, rfl, rfl⟩
          all_goals
            go_wp2_with (first
              | (go_at_call 42; refine (Long_any _ _ _ _ _).mono ?_; rintro e w' ⟨rfl, rfl⟩; rw [d1])
              | (go_at_call 45; refine (HV2.out _ (HX.out.2.trs HBB.out)).mono ?_; rintro e w1 ⟨rfl, o1⟩)
              | (go_at_call 22; refine (Sane_any _).mono ?_; rintro e w18 ⟨rfl, h18⟩))
            go_ret
            exact ⟨by first | rfl | simp, ((HX.out.2.trs HBB.out).trs o1).trs h18⟩
        · rw [hv] at HV2
          have HGG := Lib.hid (HGN.out ⟨by omega, hv⟩)
          clear HGN HG hv hln
          rcases hcs with ⟨rfl, rfl, rfl, rfl, rfl⟩ | ⟨rfl, rfl, rfl, rfl, rfl⟩ | ⟨rfl, rfl, rfl, rfl, rfl⟩
          all_goals
            go_wp2_with (first
              | (go_at_call 42; refine (Long_any _ _ _ _ _).mono ?_; rintro e w' ⟨rfl, rfl⟩; rw [d1])
              | (go_at_call 45; refine (HV2.out _ (HX.out.2.trs HBB.out)).mono ?_; rintro e w1 ⟨rfl, o1⟩))
          · go_roundg 2
            case measure => have := HL.out; omega
            case rel => exact ⟨1, by go_num, by omega, by omega, HBB.out.trs o1, HGG.out⟩
          · go_roundg 1
            case measure => have := HL.out; omega
            case rel => exact ⟨2, by go_num, by omega, by omega, HBB.out.trs o1, HGG.out⟩
          · go_roundg 0
            case measure => have := HL.out; omega
            case rel => exact ⟨3, by go_num, by omega, by omega, HBB.out.trs o1, HGG.out⟩
      · have d1 : decide ((1000 : Int) < (n : Int)) = true := by rw [decide_eq_true_eq]; omega
        clear HGN HG HVV hln hn
        rcases hcs with ⟨rfl, rfl, rfl, rfl, rfl⟩ | ⟨rfl, rfl, rfl, rfl, rfl⟩ | ⟨rfl, rfl, rfl, rfl, rfl⟩
        all_goals
          go_wp2_with (first
            | (go_at_call 42; refine (Long_any _ _ _ _ _).mono ?_; rintro e w' ⟨rfl, rfl⟩; rw [d1])
            | (go_at_call 22; refine (Sane_any _).mono ?_; rintro e w18 ⟨rfl, h18⟩))
          go_ret
          exact ⟨by first | rfl | simp, (HX.out.2.trs HBB.out).trs h18⟩
end Go.Proofs.Ytolgpigdioanoaa
