/- The walk of the law IceNarrows. -/
import Derived.Test.YtnodeooammplfaaIceNb
namespace Go.Proofs.Ytnodeooammplfaa
open Go.RowKit Go.OpenShut
set_option linter.unusedSimpArgs false
set_option linter.unusedVariables false

theorem ix_set_eq {l : List Int} {k : Nat} (x : Int) (h : k < l.length) : ix (l.set k x) k = x := by simp [ix, h]
theorem ix_set_ne {l : List Int} {k j : Nat} (x : Int) (h : k ≠ j) : ix (l.set k x) j = ix l j := by simp [ix, List.getElem?_set, h]
set_option maxRecDepth 100000 in
set_option maxHeartbeats 4000000 in
theorem IceNarrows_yes (w : World) (A : Option Addr) (c : Nat) (L : List (Int × Int)) (hr : RdP w w.heap.size A L) (A2 : Option Addr) (c2 : Nat) (Es : List (List Int)) (hr2 : RdL w w.heap.size A2 Es) (hcap : Es.length ≤ c2 ∧ c2 ≤ maxLen) (x0 x1 a b : Int) (D : Nat) (hx : (Lit.int .u16 x0).wf = true ∧ (Lit.int .u16 x1).wf = true)
    (hl : L.length ≤ 60) (hv : vld L = true) (hw : wideB Es = false) (hD : D = (mets L).length) (hab : x0 % ((D : Int) + 1) = a ∧ x1 % ((D : Int) + 1) = b) (hab2 : (0 ≤ a ∧ a ≤ D) ∧ 0 ≤ b ∧ b ≤ D) (hE : LosE L Es a b = 0) : NarT w A c L.length A2 c2 Es.length x0 x1 := by
  have b0 := bounds_u16 hx.1
  have b1 := bounds_u16 hx.2
  have hd : decide ((60 : Int) < L.length) = false := by simp; omega
  have hno := wideB_no hw
  have h600 := mets_len600 (okL_of_vld hv)
  rw [← hD] at h600
  have hp : (0 : Int) < (D : Int) + 1 := by omega
  have hB0 := below_alloc w (.cells #[.int .u16 x0, .int .u16 x1] 43)
  have HBX := Lib.hid (Box.new w 43 #[.int .u16 x0, .int .u16 x1])
  have hR := hr.on hB0
  have hR2 := hr2.on hB0
  have HB0 := Lib.hid hB0
  have HX := Lib.hid hab
  have HV := Lib.hid (refValid_any A c L _ hR (by omega))
  have HWI := Lib.hid (Wide_any A2 c2 Es _ hR2 (by omega) (fun k hk => by have := hno.2 k hk; omega))
  have HMet := Lib.hid (fun W (hW : Below (w.alloc (.cells #[.int .u16 x0, .int .u16 x1] 43)).heap.size (w.alloc (.cells #[.int .u16 x0, .int .u16 x1] 43)) W) => Metres_any A c L W (hR.on hW) (okL_of_vld hv))
  have h3 := fun W (hW : Below (w.alloc (.cells #[.int .u16 x0, .int .u16 x1] 43)).heap.size (w.alloc (.cells #[.int .u16 x0, .int .u16 x1] 43)) W) => losses_any A A2 c c2 L Es a b W (hR.on hW) (by omega) (hR2.on hW) (by omega) (fun k hk => by have := hno.2 k hk; omega)
  have hV := LosL_len (L := L) (Es := Es) (x := a) (y := b)
  have H1 := fun W hW => Between_of _ _ _ _ _ _ W hV.1 (by omega) (h3 W hW)
  have H2 := fun W hW => Clearest_of _ _ _ _ _ _ W hV.1 (by omega) (h3 W hW)
  rw [show BetV (LosE L Es a b) (LosL L Es a b) = .tuple #[.int .i64 (mnL (LosL L Es a b) (LosL L Es a b).length), .int .i64 (mxL (LosL L Es a b) (LosL L Es a b).length), .int .i64 0] from if_pos hE] at H1
  rw [show CleV (LosE L Es a b) (LosL L Es a b) = .tuple #[.int .i64 (bsL (LosL L Es a b) (LosL L Es a b).length), .int .i64 0] from if_pos hE] at H2
  have hlen : (LosL L Es a b).length = Es.length := by unfold LosL; rw [if_pos hE, losV_len]
  have hn1 := (LosE_ok hE).1
  rw [hlen] at H1 H2
  have HONE := Lib.hid (fun W (hW : Below (w.alloc (.cells #[.int .u16 x0, .int .u16 x1] 43)).heap.size (w.alloc (.cells #[.int .u16 x0, .int .u16 x1] 43)) W) (m : Nat) (hm : m < Es.length) (bb o : Nat) (e : A2 = some ⟨bb, o, none⟩) (cc : Nat) =>
    Between_one A (some ⟨bb, o + m, none⟩) c cc L (lx Es m) a b (ix (LosL L Es a b) m) W (hR.on hW) (by omega) (RdL.sub (by have := hR2.on hW; rw [e] at this; exact this) hm) (by have := hno.2 m hm; omega) (losOne hE hm).1 (losOne hE hm).2)
  have HOWN := Lib.hid (fun W (hW : Below (w.alloc (.cells #[.int .u16 x0, .int .u16 x1] 43)).heap.size (w.alloc (.cells #[.int .u16 x0, .int .u16 x1] 43)) W) (A3 : Option Addr) (c3 : Nat) (l : List Int) (hr3 : RdL W W.heap.size A3 [l]) (h1 : l.length = L.length) (h2 : ∀ k, k < L.length → ix l k = pb L k) =>
    Between_one A A3 c c3 L l a b (lossI (cum (mets L)) a.toNat b.toNat) W (hR.on hW) (by omega) hr3 (by omega) (losOwn hv h1 h2 (by omega) (by omega)).1 (losOwn hv h1 h2 (by omega) (by omega)).2)
  have HLOS := Lib.hid (fun W (hW : Below (w.alloc (.cells #[.int .u16 x0, .int .u16 x1] 43)).heap.size (w.alloc (.cells #[.int .u16 x0, .int .u16 x1] 43)) W) => Loss_in A c L a b W (hR.on hW) hv (by omega) (by omega))
  have HAT := Lib.hid (hR2.at_ (k := 0) (by omega))
  have HRC := Lib.hid (fun W (hW : Below (w.alloc (.cells #[.int .u16 x0, .int .u16 x1] 43)).heap.size (w.alloc (.cells #[.int .u16 x0, .int .u16 x1] 43)) W) (k : Nat) (hk : k < L.length) => (hR.on hW).at_ hk)
  have hbl := bsL_lt (LosL L Es a b) Es.length hn1
  have HMN := Lib.hid (mnL_le (LosL L Es a b) Es.length)
  have HMX := Lib.hid (mxL_le (LosL L Es a b) Es.length)
  have HFI := Lib.hid (bsL_first (LosL L Es a b) Es.length)
  have HBA := Lib.hid (bsL_at (LosL L Es a b) Es.length)
  have HMA := Lib.hid (mxL_at (LosL L Es a b) Es.length hn1)
  have hmm : mnL (LosL L Es a b) Es.length ≤ mxL (LosL L Es a b) Es.length := Int.le_trans (mnL_le _ _ 0 hn1) (mxL_le _ _ 0 hn1)
  obtain ⟨cs, hmk, hbm⟩ := run_make_int (P := Try.prog) (T := 37) Try.underlying37 infoInt (L.length : Int) (by omega) (by omega)
  rw [Int.toNat_natCast] at hbm
  have HMK := Lib.hid hbm
  have H1 := Lib.hid H1
  have H2 := Lib.hid H2
  rw [hv] at HV
  rw [hw] at HWI
  rw [← hD] at HMet
  have hn60 := hno.1
  have hc2 := hcap
  unfold maxLen at hc2
  clear h3 hV hR hR2 hr hr2 hE hab hB0 hno hw hv hlen hbm hcap
  generalize mnL (LosL L Es a b) Es.length = mn at *
  generalize mxL (LosL L Es a b) Es.length = mx at *
  generalize bsL (LosL L Es a b) Es.length = kk at *
  generalize LosL L Es a b = V at *
  generalize lossI (cum (mets L)) a.toNat b.toNat = lo at *
  unfold NarT
  generalize L.length = nl at *
  generalize Es.length = n at *
  generalize mets L = ML at *
  clear hD
  have hkI : decide ((kk : Int) < 0) = false := by rw [decide_eq_false_iff_not]; omega
  have hkN : decide (n ≤ kk) = false := by rw [decide_eq_false_iff_not]; omega
  have hkJ : decide ((n : Int) ≤ (kk : Int)) = false := by rw [decide_eq_false_iff_not]; omega
  have hmJ : decide (mx < mn) = false := by rw [decide_eq_false_iff_not]; omega
  go_enter Try.func10, Try.ntmps10
  go_upto_region 1 with (fail)
  generalize hW0 : w.alloc (.cells #[.int .u16 x0, .int .u16 x1] 43) = W0 at *
  clear hW0
  go_wp2_with (first
    | (go_at_call 16; refine (Long_any _ _ _ _).mono ?_; rintro e w' ⟨rfl, hq⟩; subst w')
    | (go_at_call 21; refine HV.out.mono ?_; rintro e w' ⟨rfl, hq⟩; subst w')
    | (go_at_call 44; refine HWI.out.mono ?_; rintro e w' ⟨rfl, hq⟩; subst w')
    | (go_at_call 28; refine (HMet.out _ (Below.refl _ _)).mono ?_; rintro e w1 ⟨h1, A1, c1, rfl, hR1⟩; have hbx := HBX.out.on h1; have q0 := hbx.cell 0; have q1 := hbx.cell 1; simp at q0 q1))
  clear hbx hR1
  go_quiet (fail)
  rw [HX.out.1, HX.out.2]
  have h1 := h1.drewsN nq
  generalize w1.drewN nq = w2 at *
  clear q0 q1
  go_wp2_with (first
    | (go_at_call 45; refine (H1.out _ h1).mono ?_; rintro e w3 ⟨rfl, h3⟩; have h3 := h1.trs h3)
    | (go_at_call 47; refine (H2.out _ h3).mono ?_; rintro e w4 ⟨rfl, h4⟩; have h4 := h3.trs h4))
  obtain ⟨bb, oo, _, _, hA2, hbb, _, _⟩ := HAT.out
  have HA2 := Lib.hid hA2
  subst hA2
  go_loopg [15, 16, 17] n (fun gk s t u wr => ∃ (ls gs : Int) (m : Nat), s = .int .i64 ls ∧ t = .int .i64 gs ∧ u = .int .i64 m ∧ m ≤ n ∧ n - m ≤ gk ∧ (mn ≤ ls ∧ ls ≤ mx ∧ mn ≤ gs ∧ gs ≤ mx) ∧ Below W0.heap.size W0 wr ∧ Aside (∀ j, j < m → ix V j ≤ ls ∧ gs ≤ ix V j))
  case atStart => exact ⟨mn, mx, 0, rfl, rfl, rfl, by omega, by omega, by omega, h4, (fun j hj => absurd hj (Nat.not_lt_zero j) : ∀ j, j < 0 → ix V j ≤ mn ∧ mx ≤ ix V j)⟩
  case round =>
    obtain ⟨ls, gs, m, rfl, rfl, rfl, hmn, hk, hlg, hB, HA⟩ := hrel
    by_cases hlt : m < n
    · have HC := Lib.hid (fun cc => HONE.out _ hB m hlt bb oo rfl cc)
      have hltI : (m : Int) < (n : Int) := by omega
      have hltJ : decide ((m : Int) < (n : Int)) = true := decide_eq_true hltI
      have y1 := HMN.out m hlt
      have y2 := HMX.out m hlt
      have y3 := fun h => HFI.out m h
      have y4 : m = kk → ix V m = mn := fun h => by rw [h]; exact HBA.out
      have y5 := fun j (hj : j < m) => HA.out j hj
      have HY5 : Hid (∀ z, z = ix V m → ∀ j, j < m + 1 → ix V j ≤ max ls z ∧ min gs z ≤ ix V j) := Lib.hid (fun z hz j hj => by
        rcases Nat.lt_succ_iff_lt_or_eq.1 hj with h | rfl
        · have := y5 j h; omega
        · omega)
      have hcm : ¬ c2 = m := by omega
      have hcm1 : (m : Int) + 1 ≤ (c2 : Int) := by omega
      have hcm2 : m + 1 ≤ c2 := by omega
      clear y5 HA
      generalize hz : ix V m = z at *
      have HZ := Lib.hid hz
      clear hz
      have e1 : decide (z < mn) = false := by rw [decide_eq_false_iff_not]; omega
      have e2 : decide (mx < z) = false := by rw [decide_eq_false_iff_not]; omega
      have hmax : (if ls < z then z else ls) = max ls z := by omega
      have hmin : (if z < gs then z else gs) = min gs z := by omega
      have HLG := Lib.hid hlg
      have HBB := Lib.hid hB
      have HYB := Lib.hid (And.intro y1 y2)
      clear hlg hB hmm
      rcases Nat.lt_trichotomy m kk with h | h | h
      · have y := y3 h
        have f1 : decide ((m : Int) < (kk : Int)) = true := by rw [decide_eq_true_eq]; omega
        have f1' : (m : Int) < (kk : Int) := by omega
        have f2 : (z == mn) = false := by simp; omega
        have f3 : ((m : Int) == (kk : Int)) = false := by simp; omega
        have HL := Lib.hid (And.intro hlt hk)
        clear y y1 y2 y3 y4 h
        go_wp2_with (go_at_call 45; refine (HC.out _).mono ?_; rintro e w5 ⟨rfl, h5⟩; have h5 := HBB.out.trs h5)
        all_goals
          go_roundg (n - (m + 1))
          case measure => have := HL.out; omega
          case rel => exact ⟨max ls z, min gs z, m + 1, by go_num, by go_num, by go_num, by have := HL.out; omega, by have := HL.out; omega, by have := HLG.out; have := HYB.out; omega, h5, HY5.out z rfl⟩
      · have y := y4 h
        have f1 : decide ((m : Int) < (kk : Int)) = false := by rw [decide_eq_false_iff_not]; omega
        have f1' : ¬ (m : Int) < (kk : Int) := by omega
        have f2 : (z != mn) = false := by simp; omega
        have f3 : ((m : Int) == (kk : Int)) = true := by simp; omega
        have f4 : ¬ m < kk := by omega
        have f5 : decide (m < kk) = false := decide_eq_false f4
        have HL := Lib.hid (And.intro hlt hk)
        clear y y1 y2 y3 y4 h
        go_wp2_with (go_at_call 45; refine (HC.out _).mono ?_; rintro e w5 ⟨rfl, h5⟩; have h5 := HBB.out.trs h5)
        all_goals
          go_roundg (n - (m + 1))
          case measure => have := HL.out; omega
          case rel => exact ⟨max ls z, min gs z, m + 1, by go_num, by go_num, by go_num, by have := HL.out; omega, by have := HL.out; omega, by have := HLG.out; have := HYB.out; omega, h5, HY5.out z rfl⟩
      · have f1 : decide ((m : Int) < (kk : Int)) = false := by rw [decide_eq_false_iff_not]; omega
        have f1' : ¬ (m : Int) < (kk : Int) := by omega
        have f3 : ((m : Int) == (kk : Int)) = false := by simp; omega
        have f4 : ¬ m < kk := by omega
        have f5 : decide (m < kk) = false := decide_eq_false f4
        have HL := Lib.hid (And.intro hlt hk)
        clear y1 y2 y3 y4 h
        go_wp2_with (go_at_call 45; refine (HC.out _).mono ?_; rintro e w5 ⟨rfl, h5⟩; have h5 := HBB.out.trs h5)
        all_goals
          go_roundg (n - (m + 1))
          case measure => have := HL.out; omega
          case rel => exact ⟨max ls z, min gs z, m + 1, by go_num, by go_num, by go_num, by have := HL.out; omega, by have := HL.out; omega, by have := HLG.out; have := HYB.out; omega, h5, HY5.out z rfl⟩
    · obtain rfl : m = n := by omega
      have hltI : ¬ (m : Int) < (m : Int) := by omega
      obtain ⟨jx, hjx, ejx⟩ := HMA.out
      have g1 := (HA.out jx hjx).1
      have g2 := (HA.out kk hbl).2
      rw [HBA.out] at g2
      obtain rfl : ls = mx := by omega
      obtain rfl : gs = mn := by omega
      clear g1 g2 HA HMA ejx HONE HMN HMX HFI HBA hlg
      have hbm := HMK.out wr
      have hsz := hB.size
      have hB5 := hB.alloc hsz (.cells cs 3)
      have HB5 := Lib.hid hB5
      have HBM := Lib.hid hbm
      clear hB hbm hB5
      go_upto_region 20 with (fail)
      generalize hw5 : wr.alloc (.cells cs 3) = w5 at *
      generalize hg : wr.heap.size = g at *
      clear hw5 hg
      go_wp2
      go_loopg [22] nl (fun gk t wq => ∃ (q : Nat) (l : List Int), t = .int .i64 q ∧ q ≤ nl ∧ nl - q ≤ gk ∧ BoxI wq g l ∧ Below W0.heap.size W0 wq ∧ Aside (l.length = nl ∧ ∀ k, k < q → ix l k = pb L k))
      case atStart => exact ⟨0, List.replicate nl 0, rfl, by omega, by omega, HBM.out, HB5.out, (⟨List.length_replicate .., fun k hk => absurd hk (Nat.not_lt_zero k)⟩ : (List.replicate nl (0 : Int)).length = nl ∧ ∀ k, k < 0 → ix (List.replicate nl (0 : Int)) k = pb L k)⟩
      case round =>
        obtain ⟨q, l, rfl, hq, hk, hb, hB, HA⟩ := hrel
        by_cases hlt : q < nl
        · obtain ⟨b1, o1, rfl, hb1, ci0, ci1⟩ := HRC.out _ hB q hlt
          have hltI : (q : Int) < (nl : Int) := by omega
          have cw := hb.cell (k := q) (by rw [HA.out.1]; exact hlt)
          have fw := hb.frozen q
          have HBQ := Lib.hid (And.intro hb hB)
          have HL := Lib.hid (And.intro hlt hk)
          have HLE := Lib.hid HA.out
          clear hb hB HA
          generalize hy : pb L q = y at *
          have HY := Lib.hid hy
          clear hy
          go_wp2
          go_roundg (nl - (q + 1))
          case measure => have := HL.out; omega
          case rel => exact ⟨q + 1, l.set q y, by go_num, by have := HL.out; omega, by have := HL.out; omega, HBQ.out.1.set_ q y, HBQ.out.2.setCell (p := ⟨_, _, none⟩) (by simp; omega) _, (⟨by rw [List.length_set]; exact HLE.out.1, fun k hk => by
            by_cases e : k = q
            · subst e; rw [ix_set_eq _ (by rw [HLE.out.1]; exact HL.out.1)]; exact HY.out.symm
            · rw [ix_set_ne _ (by omega)]; exact HLE.out.2 k (by omega)⟩ : (l.set q y).length = nl ∧ ∀ k, k < q + 1 → ix (l.set q y) k = pb L k)⟩
        · obtain rfl : q = nl := by omega
          have hltI : ¬ (q : Int) < (q : Int) := by omega
          have HBQ := Lib.hid hb
          have HQ := Lib.hid hB
          have HLE := Lib.hid HA.out
          clear hb hB HA
          go_wp2_with (first
            | (go_at_call 24; refine (HLOS.out _ HQ.out).mono ?_; rintro e w6 ⟨rfl, h6'⟩; have h6 := Lib.hid (HQ.out.trs h6'); have hb6 := Lib.hid (HBQ.out.on h6'); clear h6')
            | (go_at_call 45; refine (HOWN.out _ (h6.out.alloc h6.out.size _) (some ⟨w6.heap.size, 0, none⟩) 1 l (RdL.one (c := q) (by rw [HLE.out.1]; exact Box.new _ _ _) (by simp) ((hb6.out.alloc _).rd)) HLE.out.1 HLE.out.2).mono ?_; rintro e w7 ⟨rfl, h7'⟩; have h7 := (h6.out.alloc h6.out.size _).trs h7')
            | (go_at_call 17; refine (Sane_any _).mono ?_; rintro e w10 ⟨rfl, h10⟩))
          go_ret
          exact ⟨by first | rfl | simp, (HB0.out.trs h7).trs h10⟩

theorem IceNarrows_walk (w : World) (A : Option Addr) (c : Nat) (L : List (Int × Int)) (hr : RdP w w.heap.size A L) (hm : L.length ≤ maxLen) (A2 : Option Addr) (c2 : Nat) (Es : List (List Int)) (hr2 : RdL w w.heap.size A2 Es ∧ ∀ l ∈ Es, l.length ≤ maxLen) (hm2 : Es.length ≤ maxLen) (hc2 : Es.length ≤ c2 ∧ c2 ≤ maxLen) (x0 x1 : Int) (hx : (Lit.int .u16 x0).wf = true ∧ (Lit.int .u16 x1).wf = true) :
    Calls Try.prog 10 #[.slice A L.length c, .slice A2 Es.length c2, .agg #[.int .u16 x0, .int .u16 x1]] w fun e w' => e = .returned (.bool true) ∧ Below w.heap.size w w' := by
  show NarT w A c L.length A2 c2 Es.length x0 x1
  by_cases hl : L.length ≤ 60
  · cases hv : vld L
    · exact IceNarrows_early w A c L hr hm A2 c2 Es hr2 hm2 x0 x1 (.inr (.inl hv))
    · cases hw : wideB Es
      · obtain ⟨a, b, h1, h2⟩ := two_rem x0 x1 (mets L).length
        by_cases hE : LosE L Es a b = 0
        · exact IceNarrows_yes w A c L hr A2 c2 Es hr2.1 hc2 x0 x1 a b _ hx hl hv hw rfl h1 h2 hE
        · exact IceNarrows_no w A c L hr A2 c2 Es hr2.1 x0 x1 a b _ hx hl hv hw rfl h1 h2 hE
      · exact IceNarrows_early w A c L hr hm A2 c2 Es hr2 hm2 x0 x1 (.inr (.inr hw))
  · exact IceNarrows_early w A c L hr hm A2 c2 Es hr2 hm2 x0 x1 (.inl (by omega))
end Go.Proofs.Ytnodeooammplfaa
