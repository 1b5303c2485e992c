/- Walks over sky's reference: two sets taken together; Set. -/
import Derived.Test.YtolgpigdioanoaaSkyRc
namespace Go.Proofs.Ytolgpigdioanoaa
open Go.RowKit
set_option linter.unusedSimpArgs false
set_option linter.unusedVariables false

/-- how two truths are taken together -/
def mixT (p q r a b : Bool) : Bool := a && !b && p || !a && b && q || a && b && r
def mixS (p q r : Bool) (S T : Px) : Px := fun x => mixT p q r (S x) (T x)
def halfM (p q r : Bool) (S T : Px) (n : Nat) : Px := fun x => decide (x < n) && mixS p q r S T x
theorem halfM_zero (p q r : Bool) (S T : Px) : halfM p q r S T 0 = fun _ => false := by funext x; simp [halfM]
theorem halfM_all (p q r : Bool) (S T : Px) : ∀ x, x < 3072 → halfM p q r S T 3072 x = mixS p q r S T x := fun x hx => by simp [halfM, hx]
theorem halfM_set (p q r : Bool) (S T : Px) (n : Nat) : (fun x => if x = n then mixT p q r (S n) (T n) else halfM p q r S T n x) = halfM p q r S T (n + 1) := by
  funext x
  unfold halfM
  rcases Nat.lt_trichotomy x n with h1 | rfl | h1
  · have e1 : x < n + 1 := by omega
    have e2 : ¬ x = n := by omega
    simp [h1, e1, e2]
  · simp [mixS]
  · have e1 : ¬ x < n + 1 := by omega
    have e2 : ¬ x = n := by omega
    have e3 : ¬ x < n := by omega
    simp [e1, e2, e3]
theorem mixS_join (l m : List (Int × Int)) : mixS true true true (uniP l) (uniP m) = fun x => uniP l x || uniP m x := by
  funext x; unfold mixS mixT; cases uniP l x <;> cases uniP m x <;> rfl
theorem mixS_both (l m : List (Int × Int)) : mixS false false true (uniP l) (uniP m) = fun x => uniP l x && uniP m x := by
  funext x; unfold mixS mixT; cases uniP l x <;> cases uniP m x <;> rfl
theorem mixS_less (l m : List (Int × Int)) : mixS true false false (uniP l) (uniP m) = fun x => uniP l x && !(uniP m x) := by
  funext x; unfold mixS mixT; cases uniP l x <;> cases uniP m x <;> rfl
set_option maxRecDepth 100000 in
set_option maxHeartbeats 4000000 in
theorem refmixed_any (p q r : Bool) (hpqr : (p = true ∧ q = true ∧ r = true) ∨ (p = false ∧ q = false ∧ r = true) ∨ (p = true ∧ q = false ∧ r = false)) (A : Option Addr) (c : Nat) (l : List (Int × Int)) (A2 : Option Addr) (c2 : Nat) (m : List (Int × Int)) (w : World) (hr : RdP w w.heap.size A l) (hl : l.length ≤ 1000000) (hr2 : RdP w w.heap.size A2 m) (hl2 : m.length ≤ 1000000) :
    Calls Try.prog 110 #[.slice A l.length c, .slice A2 m.length c2, .bool p, .bool q, .bool r] w (LstQ (mixL l m (mixS p q r (uniP l) (uniP m))) (mixE l m (mixS p q r (uniP l) (uniP m))) w) := by
  have HV1 := Lib.hid (fun W (hW : Below w.heap.size w W) => refValid_any A c l W (hr.on hW) hl)
  have HV2 := Lib.hid (fun W (hW : Below w.heap.size w W) => refValid_any A2 c2 m W (hr2.on hW) hl2)
  have HA1 := Lib.hid (fun (h : vldC l = true) W (hW : Below w.heap.size w W) => AreaOf_any A c l W (hr.on hW) hl (badB_no (vldC_iff.1 h).2.1))
  have HA2 := Lib.hid (fun (h : vldC m = true) W (hW : Below w.heap.size w W) => AreaOf_any A2 c2 m W (hr2.on hW) hl2 (badB_no (vldC_iff.1 h).2.1))
  have HNO := Lib.hid Nothing_any
  have HT := Lib.hid (fun W g hX => set_any (mixS p q r (uniP l) (uniP m)) g W hX)
  have HN : Hid ((vldC l && vldC m) = false → ∀ W, Below w.heap.size w W → LstQ (mixL l m (mixS p q r (uniP l) (uniP m))) (mixE l m (mixS p q r (uniP l) (uniP m))) w (.returned (.tuple #[.slice none 0 0, .int .i64 60])) W) := Lib.hid (fun h W hW => by
    unfold mixL mixE; rw [h]; exact LstQ.no_ hW)
  have HY : Hid ((vldC l && vldC m) = true → mixL l m (mixS p q r (uniP l) (uniP m)) = toldL (mixS p q r (uniP l) (uniP m)) ∧ mixE l m (mixS p q r (uniP l) (uniP m)) = toldE (mixS p q r (uniP l) (uniP m))) := Lib.hid (fun h => by
    unfold mixL mixE; rw [h]; exact ⟨rfl, rfl⟩)
  have HHA := Lib.hid (halfM_all p q r (uniP l) (uniP m))
  have HHZ := Lib.hid (halfM_zero p q r (uniP l) (uniP m))
  have HHS := Lib.hid (halfM_set p q r (uniP l) (uniP m))
  unfold AreQ at HA1 HA2 HNO
  unfold LstQ at HT
  clear hr hr2 hl hl2
  generalize toldL (mixS p q r (uniP l) (uniP m)) = TL at *
  generalize toldE (mixS p q r (uniP l) (uniP m)) = TE at *
  generalize mixL l m (mixS p q r (uniP l) (uniP m)) = RL at *
  generalize mixE l m (mixS p q r (uniP l) (uniP m)) = RE at *
  generalize hMS : halfM p q r (uniP l) (uniP m) = HM at *
  clear hMS
  generalize mixS p q r (uniP l) (uniP m) = MS at *
  generalize uniP l = S at *
  generalize uniP m = T at *
  cases hv1 : vldC l
  · have H0 := Lib.hid (HN.out (by rw [hv1]; rfl))
    rw [hv1] at HV1
    clear HN HY HA1 HA2 HT HHA HHZ HHS hv1
    generalize l.length = n at *
    generalize m.length = n2 at *
    go_enter Try.func110, Try.ntmps110
    go_wp2_with (go_at_call 45; refine (HV1.out _ (Below.refl _ _)).mono ?_; rintro e w1 ⟨rfl, h1⟩)
    go_ret2
    exact H0.out _ h1
  · cases hv2 : vldC m
    · have H0 := Lib.hid (HN.out (by rw [hv1, hv2]; rfl))
      rw [hv1] at HV1
      rw [hv2] at HV2
      clear HN HY HA1 HA2 HT HHA HHZ HHS hv1 hv2
      generalize l.length = n at *
      generalize m.length = n2 at *
      go_enter Try.func110, Try.ntmps110
      go_wp2_with (first
        | (go_at_call 45; have hy := h1; refine (HV2.out _ h1).mono ?_; rintro e w2 ⟨rfl, h2⟩)
        | (go_at_call 45; refine (HV1.out _ (Below.refl _ _)).mono ?_; rintro e w1 ⟨rfl, h1⟩))
      go_ret2
      exact H0.out _ (h1.trs h2)
    · obtain ⟨eL, eE⟩ := HY.out (by rw [hv1, hv2]; rfl)
      have HAA1 := Lib.hid (HA1.out hv1)
      have HAA2 := Lib.hid (HA2.out hv2)
      rw [hv1] at HV1
      rw [hv2] at HV2
      clear HN HY HA1 HA2 hv1 hv2
      generalize l.length = n at *
      generalize m.length = n2 at *
      go_enter Try.func110, Try.ntmps110
      go_wp2_with (first
        | (go_at_call 45; have hy := h1; refine (HV2.out _ h1).mono ?_; rintro e w2 ⟨rfl, h2⟩; have h2 := h1.trs h2)
        | (go_at_call 45; refine (HV1.out _ (Below.refl _ _)).mono ?_; rintro e w1 ⟨rfl, h1⟩)
        | (go_at_call 103; have hy := h3; refine (HAA2.out _ h3).mono ?_; rintro e w4 ⟨g2, rfl, hg2, h4', hx2⟩; have h4 := h3.trs h4'; have hx1' := hx1.on h4')
        | (go_at_call 103; refine (HAA1.out _ h2).mono ?_; rintro e w3 ⟨g1, rfl, hg1, h3', hx1⟩; have h3 := h2.trs h3')
        | (go_at_call 99; refine (HNO.out _).mono ?_; rintro e w5 ⟨g, rfl, hg, h5', hx⟩; have h5 := h4.trs h5'; have hx1'' := hx1'.on h5'; have hx2'' := hx2.on h5'))
      have HX12 := Lib.hid (And.intro hx1' (And.intro hx2 (And.intro hg h4)))
      go_loopg [15] 3072 (fun gk t wr => ∃ n : Nat, t = .int .i64 n ∧ n ≤ 3072 ∧ 3072 - n ≤ gk ∧ BoxA wr g (HM n) ∧ Below w4.heap.size w4 wr)
      case atStart => exact ⟨0, rfl, by omega, by omega, by rw [HHZ.out]; exact hx, h5'⟩
      case round =>
        obtain ⟨k, rfl, hn, hgk, hX, hB⟩ := hrel
        by_cases hlt : k < 3072
        · have hltI : (k : Int) < 3072 := by omega
          have c1 := (HX12.out.1.on hB).cell hlt
          have c2 := (HX12.out.2.1.on hB).cell hlt
          have c3 := hX.cell hlt
          have f3 := hX.frozen k
          have hss := HHS.out k
          have HXS := Lib.hid (And.intro hX hB)
          have HL := Lib.hid (And.intro hlt hgk)
          clear hX hB
          generalize HM k k = old at c3
          generalize S k = sk at *
          generalize T k = tk at *
          rcases hpqr with ⟨rfl, rfl, rfl⟩ | ⟨rfl, rfl, rfl⟩ | ⟨rfl, rfl, rfl⟩ <;> cases sk <;> cases tk
          all_goals
            simp only [mixT, Bool.not_true, Bool.not_false, Bool.and_true, Bool.true_and, Bool.and_false, Bool.false_and, Bool.or_true, Bool.or_false, Bool.true_or, Bool.false_or] at hss
            have HSS := Lib.hid hss
            clear hss
            go_wp2
            go_roundg (3072 - (k + 1))
            case measure => have := HL.out; omega
            case rel => exact ⟨k + 1, by go_num, by have := HL.out; omega, by have := HL.out; omega, by rw [← HSS.out]; exact HXS.out.1.set_ k _, HXS.out.2.setCell (p := ⟨g, k, none⟩) HX12.out.2.2.1 _⟩
        · obtain rfl : k = 3072 := by omega
          have HX1 := Lib.hid (hX.congr HHA.out)
          have HB1 := Lib.hid (HX12.out.2.2.2.trs hB)
          clear hX hB
          go_wp2_with (go_at_call 100; refine (HT.out _ _ HX1.out).mono ?_; rintro e w9 ⟨h9, A9, c9, rfl, hr9⟩)
          go_ret2
          refine ⟨HB1.out.trs h9, A9, c9, ?_, ?_⟩
          · rw [eL, eE]; first | done | rfl
          · rw [eL]; exact hr9
set_option maxHeartbeats 1000000 in
theorem refJoin_any (A : Option Addr) (c : Nat) (l : List (Int × Int)) (A2 : Option Addr) (c2 : Nat) (m : List (Int × Int)) (w : World) (hr : RdP w w.heap.size A l) (hl : l.length ≤ 1000000) (hr2 : RdP w w.heap.size A2 m) (hl2 : m.length ≤ 1000000) :
    Calls Try.prog 48 #[.slice A l.length c, .slice A2 m.length c2] w (LstQ (mixL l m (joinR l m)) (mixE l m (joinR l m)) w) := by
  have h := refmixed_any true true true (by simp) A c l A2 c2 m w hr hl hr2 hl2
  rw [mixS_join] at h
  have HM := Lib.hid h
  rw [show (fun x => uniP l x || uniP m x) = joinR l m from rfl] at HM
  unfold LstQ at *
  clear hr hr2 h
  generalize mixL l m (joinR l m) = RL at *
  generalize mixE l m (joinR l m) = RE at *
  generalize l.length = n at *
  generalize m.length = n2 at *
  go_enter Try.func48, Try.ntmps48
  go_wp2_with (go_at_call 110; refine HM.out.mono ?_; rintro e w1 ⟨h1, A1, c1, rfl, hr1⟩)
  go_ret2
  exact ⟨h1, A1, c1, rfl, hr1⟩
set_option maxHeartbeats 1000000 in
theorem refBoth_any (A : Option Addr) (c : Nat) (l : List (Int × Int)) (A2 : Option Addr) (c2 : Nat) (m : List (Int × Int)) (w : World) (hr : RdP w w.heap.size A l) (hl : l.length ≤ 1000000) (hr2 : RdP w w.heap.size A2 m) (hl2 : m.length ≤ 1000000) :
    Calls Try.prog 50 #[.slice A l.length c, .slice A2 m.length c2] w (LstQ (mixL l m (bothR l m)) (mixE l m (bothR l m)) w) := by
  have h := refmixed_any false false true (by simp) A c l A2 c2 m w hr hl hr2 hl2
  rw [mixS_both] at h
  have HM := Lib.hid h
  rw [show (fun x => uniP l x && uniP m x) = bothR l m from rfl] at HM
  unfold LstQ at *
  clear hr hr2 h
  generalize mixL l m (bothR l m) = RL at *
  generalize mixE l m (bothR l m) = RE at *
  generalize l.length = n at *
  generalize m.length = n2 at *
  go_enter Try.func50, Try.ntmps50
  go_wp2_with (go_at_call 110; refine HM.out.mono ?_; rintro e w1 ⟨h1, A1, c1, rfl, hr1⟩)
  go_ret2
  exact ⟨h1, A1, c1, rfl, hr1⟩
set_option maxHeartbeats 1000000 in
theorem refWithout_any (A : Option Addr) (c : Nat) (l : List (Int × Int)) (A2 : Option Addr) (c2 : Nat) (m : List (Int × Int)) (w : World) (hr : RdP w w.heap.size A l) (hl : l.length ≤ 1000000) (hr2 : RdP w w.heap.size A2 m) (hl2 : m.length ≤ 1000000) :
    Calls Try.prog 52 #[.slice A l.length c, .slice A2 m.length c2] w (LstQ (mixL l m (lessR l m)) (mixE l m (lessR l m)) w) := by
  have h := refmixed_any true false false (by simp) A c l A2 c2 m w hr hl hr2 hl2
  rw [mixS_less] at h
  have HM := Lib.hid h
  rw [show (fun x => uniP l x && !(uniP m x)) = lessR l m from rfl] at HM
  unfold LstQ at *
  clear hr hr2 h
  generalize mixL l m (lessR l m) = RL at *
  generalize mixE l m (lessR l m) = RE at *
  generalize l.length = n at *
  generalize m.length = n2 at *
  go_enter Try.func52, Try.ntmps52
  go_wp2_with (go_at_call 110; refine HM.out.mono ?_; rintro e w1 ⟨h1, A1, c1, rfl, hr1⟩)
  go_ret2
  exact ⟨h1, A1, c1, rfl, hr1⟩

/-! ### the whole sky -/
/-- the first n faces -/
def skyN (n : Nat) : List (Int × Int) := (List.range n).map fun f : Nat => ((0 : Int), (f : Int))
theorem skyN_succ (n : Nat) : skyN n ++ [(0, (n : Int))] = skyN (n + 1) := by simp [skyN, List.range_succ]
theorem skyN_all : skyN 12 = skyL := by
  unfold skyL cellsP
  have key : ∀ f, lookC (fun _ => true) 4 f = [(0, (f : Int))] := fun f => by
    have h : allP (fun _ => true) (f * 4 ^ 4) (4 ^ 4) = true := allP_iff.2 fun _ _ => rfl
    have := look_full h
    simpa using this
  rw [show lookC (fun _ => true) 4 = fun f : Nat => [((0 : Int), (f : Int))] from funext key]
  rfl
set_option maxHeartbeats 2000000 in
theorem Sky_any (w : World) : Calls Try.prog 62 #[] w (CelsQ skyL w) := by
  have HS := Lib.hid skyN_succ
  have HA := Lib.hid skyN_all
  have HL : Hid (∀ n, n ≤ 12 → (skyN n).length ≤ 12) := Lib.hid (fun n h => by simp [skyN]; omega)
  have HZ : Hid (skyN 0 = []) := Lib.hid rfl
  unfold CelsQ
  rw [← HA.out]
  generalize skyN = SN at *
  go_enter Try.func62, Try.ntmps62
  go_wp2
  go_loopg [1, 2] 12 (fun gk s t wr => ∃ n : Nat, t = .int .i64 n ∧ n ≤ 12 ∧ 12 - n ≤ gk ∧ Below w.heap.size w wr ∧ OwnP wr w.heap.size 60 s (SN n))
  case atStart => exact ⟨0, rfl, by omega, by omega, Below.refl _ _, by rw [HZ.out]; exact OwnP.nil _ _ _⟩
  case round =>
    obtain ⟨n, rfl, hn, hgk, hB, hO⟩ := hrel
    by_cases hlt : n < 12
    · have hltI : (n : Int) < 12 := by omega
      have hln := HL.out n hn
      have hsz := hB.size
      have HO1 := Lib.hid (hO.kept (below_alloc wr (.cells #[.int .i64 0, .int .i64 n] 60)))
      have HNW := Lib.hid (Box.new wr 60 #[.int .i64 0, .int .i64 n])
      have HB1 := Lib.hid (hB.trs (below_alloc wr (.cells #[.int .i64 0, .int .i64 n] 60)))
      have HSn := Lib.hid (HS.out n)
      have HLL := Lib.hid (And.intro hlt hgk)
      clear hB hO
      go_wp2_with (refine wp_app_pair2 44 60 rfl (.tmp 7) (.tmp 10) rfl Try.underlying44 infoCel _ w.heap.size wr.heap.size _ (SN n) 0 (n : Int) rfl rfl HO1.out HNW.out (by omega) (by simp; omega) ?_; intro v6 w6 hO6 hB6 hS6 hF6)
      go_roundg (12 - (n + 1))
      case measure => have := HLL.out; omega
      case rel => exact ⟨n + 1, by go_num, by have := HLL.out; omega, by have := HLL.out; omega, HB1.out.trans hB6, by rw [← HSn.out]; exact hO6⟩
    · obtain rfl : n = 12 := by omega
      obtain ⟨A, c2, rfl, hrd⟩ := hO.rd
      have HBB := Lib.hid (And.intro hB hrd)
      clear hB hO hrd
      generalize hq : (SN 12).length = n at *
      go_wp2
      go_ret
      exact ⟨HBB.out.1, A, c2, by rw [hq]; first | done | rfl, HBB.out.2⟩
set_option maxHeartbeats 1000000 in
theorem refRest_any (A : Option Addr) (c : Nat) (l : List (Int × Int)) (w : World) (hr : RdP w w.heap.size A l) (hl : l.length ≤ 1000000) :
    Calls Try.prog 54 #[.slice A l.length c] w (LstQ (mixL skyL l (lessR skyL l)) (mixE skyL l (lessR skyL l)) w) := by
  have hsl : skyL.length ≤ 3072 := cells_len _
  have HM := Lib.hid (fun A1 c1 W (h1 : RdP W W.heap.size A1 skyL) (hW : Below w.heap.size w W) => refWithout_any A1 c1 skyL A c l W h1 (by omega) (hr.on hW) hl)
  have HC := Lib.hid (fun W => Sky_any W)
  unfold LstQ CelsQ at *
  clear hr hl hsl
  generalize mixL skyL l (lessR skyL l) = RL at *
  generalize mixE skyL l (lessR skyL l) = RE at *
  generalize l.length = n at *
  generalize hs : skyL.length = n2 at *
  clear hs
  go_enter Try.func54, Try.ntmps54
  go_wp2_with (first
    | (go_at_call 62; refine (HC.out _).mono ?_; rintro e w2 ⟨h2, A2, c2, rfl, hr2⟩)
    | (go_at_call 52; refine (HM.out _ _ _ hr2 h2).mono ?_; rintro e w3 ⟨h3, A3, c3, rfl, hr3⟩))
  go_ret2
  exact ⟨h2.trs h3, A3, c3, rfl, hr3⟩
end Go.Proofs.Ytolgpigdioanoaa
