/- Walks over the reference of ice: Lamps, Dark, AreDark; equal lists. -/
import Derived.Test.YtnodeooammplfaaIceU
namespace Go.Proofs.Ytnodeooammplfaa
open Go.RowKit

theorem sameInts_any (A A' : Option Addr) (c c' : Nat) (L : List Int) (w : World) (hr : RdI w w.heap.size A L) (hr' : RdI w w.heap.size A' L) (hl : L.length ≤ 1125899906842624) :
    Calls Try.prog 54 #[.slice A L.length c, .slice A' L.length c'] w fun e w' => e = .returned (.bool true) ∧ Below w.heap.size w w' := by
  have HR := Lib.hid hr; clear hr
  have HR' := Lib.hid hr'; clear hr'
  go_enter Try.func54, Try.ntmps54
  go_wp2
  go_loopg [5] L.length (fun k s wr => ∃ i : Nat, s = .int .i64 i ∧ i ≤ L.length ∧ L.length - i ≤ k ∧ Below w.heap.size w wr)
  case atStart => exact ⟨0, rfl, by omega, by omega, Below.refl _ _⟩
  case round =>
    obtain ⟨i, rfl, hi, hk, hB⟩ := hrel
    by_cases hlt : i < L.length
    · obtain ⟨b, o, rfl, hb, c1⟩ := HR.out.at_ (k := i) hlt
      obtain ⟨b', o', rfl, hb', d1⟩ := HR'.out.at_ (k := i) hlt
      rw [← hB.cell hb] at c1
      rw [← hB.cell hb'] at d1
      go_wp2_with fail
      go_quiet (fail)
      go_wp2_with fail
      go_roundg (L.length - (i + 1))
      case measure => omega
      case rel => exact ⟨i + 1, by go_num, by omega, by omega, hB.drewsN _⟩
    · go_wp2
      go_ret
      exact ⟨rfl, hB⟩

theorem refLamps_any (A : Option Addr) (c : Nat) (L : List (Int × Int)) (s : Int) (w : World) (hr : RdP w w.heap.size A L) (hl : L.length ≤ 1125899906842624) :
    Calls Try.prog 55 #[.slice A L.length c, .int .i64 s] w (IntsRet (LitsL (fun x _ => x) L s) (LitsE L s) w) := by
  have HA := Lib.hid (refasked_any A c L s w hr hl)
  by_cases hg0 : gate (vld L) (btw 0 s 100000) = 0
  · have hv : vld L = true := by
      cases h : vld L
      · rw [h] at hg0; simp [gate] at hg0
      · rfl
    have hs : btw 0 s 100000 = true := by
      cases h : btw 0 s 100000
      · rw [h, hv] at hg0; simp [gate] at hg0
      · rfl
    have hok := okL_of_vld hv
    have h600 := mets_len600 hok
    have HM := Lib.hid (Metres_any A c L w hr hok)
    have hsb := btw_iff.1 hs
    have HK := Lib.hid (fun W A' c' h => reflamps_any A' c' (mets L) s W h (mets_mem hok) h600 hsb.1 (by omega))
    have HNO : Hid (∀ w', Below w.heap.size w w' → lampsO (mets L) s = none → IntsRet (LitsL (fun x _ => x) L s) (LitsE L s) w (.returned (.tuple #[.slice none 0 0, .int .i64 5])) w') := Lib.hid (fun w' hb hn => by
      have e1 : LitsE L s = 5 := by unfold LitsE; rw [hv, hs, hn]; rfl
      rw [e1]
      exact IntsRet.nil (by unfold LitsL; rw [hn]; simp [litL, lmp]) hb)
    have HYES : Hid (∀ w' K v B, Below w.heap.size w w' → lampsO (mets L) s = some K → OwnI w' B 3 v (litL (fun x _ => x) K) → IntsRet (LitsL (fun x _ => x) L s) (LitsE L s) w (.returned (.tuple #[v, .int .i64 0])) w') := Lib.hid (fun w' K v B hb hK ho => by
      have e1 : LitsE L s = 0 := by unfold LitsE; rw [hv, hs, hK]; rfl
      have e2 : LitsL (fun x _ => x) L s = litL (fun x _ => x) K := by unfold LitsL; rw [hv, hs, hK]; rfl
      rw [e1, e2]
      exact IntsRet.own ho hb)
    rw [hg0] at HA
    generalize LitsL (fun x _ => x) L s = rl at *
    generalize LitsE L s = re at *
    clear hr hg0 hv hs hok hsb
    go_enter Try.func55, Try.ntmps55
    go_wp2_with (first
      | (go_at_call 95; refine HA.out.mono ?_; rintro e w' ⟨rfl, rfl⟩)
      | (go_at_call 28; refine HM.out.mono ?_; rintro e w1 ⟨hB, A', c', rfl, hR⟩; have HR := Lib.hid hR; clear hR)
      | (go_at_call 84; refine (HK.out _ _ _ HR.out).mono ?_; rintro e w2 ⟨hB2, ⟨hn, rfl⟩ | ⟨K, v, u, hK, rfl, hO1, hO2⟩⟩))
    all_goals go_ret2
    · exact HNO.out _ (hB.trs hB2) hn
    · exact HYES.out _ _ _ _ (hB.trs hB2) hK (by rw [litL_fst]; first | exact hO1 | exact hO2)
  · have hE : LitsE L s = gate (vld L) (btw 0 s 100000) := by
      unfold LitsE; unfold gate at hg0 ⊢
      cases hv : vld L <;> cases hs : btw 0 s 100000 <;> simp [hv, hs] at hg0 ⊢
    have hL : LitsL (fun x _ => x) L s = [] := by
      unfold LitsL; unfold gate at hg0
      cases hv : vld L <;> cases hs : btw 0 s 100000 <;> simp [hv, hs] at hg0 ⊢
    rw [hE, hL]
    have hne : ¬ gate (vld L) (btw 0 s 100000) = 0 := hg0
    generalize gate (vld L) (btw 0 s 100000) = er at *
    clear hr hE hL hg0
    go_enter Try.func55, Try.ntmps55
    go_wp2_with (go_at_call 95; refine HA.out.mono ?_; rintro e w' ⟨rfl, rfl⟩)
    go_ret2
    exact IntsRet.nil rfl (Below.refl _ _)

theorem refDark_any (A : Option Addr) (c : Nat) (L : List (Int × Int)) (s : Int) (w : World) (hr : RdP w w.heap.size A L) (hl : L.length ≤ 1125899906842624) :
    Calls Try.prog 51 #[.slice A L.length c, .int .i64 s] w (IntsRet (LitsL (fun _ y => y) L s) (LitsE L s) w) := by
  have HA := Lib.hid (refasked_any A c L s w hr hl)
  by_cases hg0 : gate (vld L) (btw 0 s 100000) = 0
  · have hv : vld L = true := by
      cases h : vld L
      · rw [h] at hg0; simp [gate] at hg0
      · rfl
    have hs : btw 0 s 100000 = true := by
      cases h : btw 0 s 100000
      · rw [h, hv] at hg0; simp [gate] at hg0
      · rfl
    have hok := okL_of_vld hv
    have h600 := mets_len600 hok
    have HM := Lib.hid (Metres_any A c L w hr hok)
    have hsb := btw_iff.1 hs
    have HK := Lib.hid (fun W A' c' h => reflamps_any A' c' (mets L) s W h (mets_mem hok) h600 hsb.1 (by omega))
    have HNO : Hid (∀ w', Below w.heap.size w w' → lampsO (mets L) s = none → IntsRet (LitsL (fun _ y => y) L s) (LitsE L s) w (.returned (.tuple #[.slice none 0 0, .int .i64 5])) w') := Lib.hid (fun w' hb hn => by
      have e1 : LitsE L s = 5 := by unfold LitsE; rw [hv, hs, hn]; rfl
      rw [e1]
      exact IntsRet.nil (by unfold LitsL; rw [hn]; simp [litL, lmp]) hb)
    have HYES : Hid (∀ w' K v B, Below w.heap.size w w' → lampsO (mets L) s = some K → OwnI w' B 3 v (litL (fun _ y => y) K) → IntsRet (LitsL (fun _ y => y) L s) (LitsE L s) w (.returned (.tuple #[v, .int .i64 0])) w') := Lib.hid (fun w' K v B hb hK ho => by
      have e1 : LitsE L s = 0 := by unfold LitsE; rw [hv, hs, hK]; rfl
      have e2 : LitsL (fun _ y => y) L s = litL (fun _ y => y) K := by unfold LitsL; rw [hv, hs, hK]; rfl
      rw [e1, e2]
      exact IntsRet.own ho hb)
    rw [hg0] at HA
    generalize LitsL (fun _ y => y) L s = rl at *
    generalize LitsE L s = re at *
    clear hr hg0 hv hs hok hsb
    go_enter Try.func51, Try.ntmps51
    go_wp2_with (first
      | (go_at_call 95; refine HA.out.mono ?_; rintro e w' ⟨rfl, rfl⟩)
      | (go_at_call 28; refine HM.out.mono ?_; rintro e w1 ⟨hB, A', c', rfl, hR⟩; have HR := Lib.hid hR; clear hR)
      | (go_at_call 84; refine (HK.out _ _ _ HR.out).mono ?_; rintro e w2 ⟨hB2, ⟨hn, rfl⟩ | ⟨K, v, u, hK, rfl, hO1, hO2⟩⟩))
    all_goals go_ret2
    · exact HNO.out _ (hB.trs hB2) hn
    · exact HYES.out _ _ _ _ (hB.trs hB2) hK (by rw [litL_snd]; first | exact hO1 | exact hO2)
  · have hE : LitsE L s = gate (vld L) (btw 0 s 100000) := by
      unfold LitsE; unfold gate at hg0 ⊢
      cases hv : vld L <;> cases hs : btw 0 s 100000 <;> simp [hv, hs] at hg0 ⊢
    have hL : LitsL (fun _ y => y) L s = [] := by
      unfold LitsL; unfold gate at hg0
      cases hv : vld L <;> cases hs : btw 0 s 100000 <;> simp [hv, hs] at hg0 ⊢
    rw [hE, hL]
    have hne : ¬ gate (vld L) (btw 0 s 100000) = 0 := hg0
    generalize gate (vld L) (btw 0 s 100000) = er at *
    clear hr hE hL hg0
    go_enter Try.func51, Try.ntmps51
    go_wp2_with (go_at_call 95; refine HA.out.mono ?_; rintro e w' ⟨rfl, rfl⟩)
    go_ret2
    exact IntsRet.nil rfl (Below.refl _ _)

set_option maxRecDepth 100000 in
set_option maxHeartbeats 4000000 in
theorem refAreDark_any (A A2 : Option Addr) (c c2 : Nat) (L : List (Int × Int)) (s : Int) (la : List Int) (w : World) (hr : RdP w w.heap.size A L) (hl : L.length ≤ 1125899906842624) (hr2 : RdI w w.heap.size A2 la) (hl2 : la.length ≤ 1000000) :
    Calls Try.prog 53 #[.slice A L.length c, .int .i64 s, .slice A2 la.length c2] w fun e w' => e = .returned (.tuple #[.bool (DarkB L s la), .int .i64 (gate (vld L) (DarkR L s la))]) ∧ Below w.heap.size w w' := by
  have HA := Lib.hid (refasked_any A c L s w hr hl)
  by_cases hg0 : gate (vld L) (btw 0 s 100000) = 0
  · have hv : vld L = true := by
      cases h : vld L
      · rw [h] at hg0; simp [gate] at hg0
      · rfl
    have hs : btw 0 s 100000 = true := by
      cases h : btw 0 s 100000
      · rw [h, hv] at hg0; simp [gate] at hg0
      · rfl
    have hok := okL_of_vld hv
    have h600 := mets_len600 hok
    have hne := vld_ne hv
    have HM := Lib.hid (Metres_any A c L w hr hok)
    have hsb := btw_iff.1 hs
    have hR : DarkR L s la = riseB la (((mets L).length : Int) - 1) := by unfold DarkR; rw [hs]; rfl
    have hww : IntKind.i64.wrap (((mets L).length : Int) - 1) = ((mets L).length : Int) - 1 := IntWalk.i64_in _ (by omega)
    rw [hg0] at HA
    have HAS := Lib.hid (fun W (hW : Below w.heap.size w W) => ascends_any A2 c2 la (((mets L).length : Int) - 1) W (hr2.on hW) hl2)
    cases hrb : riseB la (((mets L).length : Int) - 1)
    · have hE : gate (vld L) (DarkR L s la) = 2 := gate_arg hv (by rw [hR, hrb])
      have hV : DarkB L s la = false := by simp [DarkB, hE]
      rw [hE, hV]
      rw [hrb] at HAS
      clear hr hr2 hg0 hv hs hok hsb hR hrb hE hV
      generalize (mets L).length = n at *
      go_enter Try.func53, Try.ntmps53
      go_wp2_with (first
        | (go_at_call 95; refine HA.out.mono ?_; rintro e w' ⟨rfl, rfl⟩)
        | (go_at_call 28; refine HM.out.mono ?_; rintro e w1 ⟨hB, A', c', rfl, hR⟩; have HR := Lib.hid hR; clear hR)
        | (go_at_call 98; refine (HAS.out _ hB).mono ?_; rintro e w2 ⟨rfl, h2⟩))
      go_ret2
      exact ⟨rfl, hB.trs h2⟩
    · have hDR : DarkR L s la = true := by rw [hR, hrb]
      obtain ⟨_, _, r, rfl, hrr, hV⟩ := dark_nat hv hDR
      have hE : gate (vld L) (DarkR L s (natL r)) = 0 := gate_ok hv hDR
      have hnn : ∀ d ∈ mets L, 0 ≤ d := fun d hd => (mets_mem hok d hd).1
      have hcnt := rises_count hrr
      have hdi := darkB_iff hnn hsb.1 hrr hne
      have HNO : Hid (∀ i a, i + 1 < r.length → a ≤ (mets L).length → litB (mets L) s a (nx r i) = true → litB (mets L) s a (nx r (i + 1)) = true → DarkB L s (natL r) = false) := Lib.hid (fun i a hi ha h1 h2 => by
        rw [hV]
        cases hd : darkB (mets L) s r
        · rfl
        · exact absurd ⟨a, ha, litB_iff.1 h1, litB_iff.1 h2⟩ ((darks_iff r).1 (hdi.1 hd) i hi))
      have HYES : Hid ((∀ i, i + 1 < r.length → ∀ a, a ≤ (mets L).length → ¬ (litB (mets L) s a (nx r i) = true ∧ litB (mets L) s a (nx r (i + 1)) = true)) → DarkB L s (natL r) = true) := Lib.hid (fun h => by
        rw [hV]
        exact hdi.2 ((darks_iff r).2 (fun k hk hex => by
          obtain ⟨a, ha, h1, h2⟩ := hex
          exact h k hk a ha ⟨litB_iff.2 h1, litB_iff.2 h2⟩)))
      rw [hE]
      rw [hrb] at HAS
      have hix := ix_bounds hok
      have HT := Lib.hid (fun W A' c' a m (ha : a ≤ (mets L).length) h => reflights_any A' c' (mets L) a m s W h hix h600 ha hsb.1 (by omega))
      have HR2 := Lib.hid hr2
      have HIXR := Lib.hid (ix_natL r)
      have hnl := natL_len r
      generalize hVV : DarkB L s (natL r) = V at *
      clear hr hr2 hg0 hv hs hok hR hrb hE hV hVV hnn hix hrr hDR hdi
      rw [hnl] at HAS
      rw [hnl]
      have HNLL := Lib.hid hnl; clear hnl
      have hm6 : r.length ≤ 600 := by omega
      clear hcnt
      generalize hn : (mets L).length = n at *
      have HN := Lib.hid hn; clear hn
      generalize hm : r.length = m at *
      have HMM := Lib.hid hm; clear hm
      go_enter Try.func53, Try.ntmps53
      go_wp2_with (first
        | (go_at_call 95; refine HA.out.mono ?_; rintro e w' ⟨rfl, rfl⟩)
        | (go_at_call 28; refine HM.out.mono ?_; rintro e w1 ⟨hB, A', c', rfl, hR⟩; have HR := Lib.hid hR; clear hR)
        | (go_at_call 98; refine (HAS.out _ hB).mono ?_; rintro e w2 ⟨rfl, h2⟩))
      have HB2 := Lib.hid (hB.trs h2)
      have HRM := Lib.hid (HR.out.on h2)
      have HLA := Lib.hid (HR2.out.on (hB.trs h2))
      clear h2 hB
      go_loopg [10] m (fun kk u wr => ∃ i : Nat, u = .int .i64 i ∧ i ≤ m ∧ m - i ≤ kk ∧ Hid (∀ t, t < i → t + 1 < m → ∀ a, a ≤ n → ¬ (litB (mets L) s a (nx r t) = true ∧ litB (mets L) s a (nx r (t + 1)) = true)) ∧ w2 = wr)
      case atStart => exact ⟨0, rfl, by omega, by omega, Lib.hid (fun t ht => by omega), rfl⟩
      case round =>
        obtain ⟨i, rfl, hi, hkk, hQ, rfl⟩ := hrel
        by_cases hlt : i + 1 < m
        · have hlti : (i : Int) + 1 < (m : Int) := by omega
          have hlti2 : (i : Int) < (m : Int) := by omega
          obtain ⟨b, o, rfl, hb, q1⟩ := HLA.out.at_ (k := i) (by rw [HNLL.out]; omega)
          obtain ⟨b', o', he, _, q2⟩ := HLA.out.at_ (k := i + 1) (by rw [HNLL.out]; exact hlt)
          injection he with he
          injection he with e1 e2 _
          subst e1; subst e2
          rw [HIXR.out] at q1 q2
          have hi5 : ((i : Int) + 1).toNat = i + 1 := by omega
          have hi6 : 0 ≤ (i : Int) + 1 := by omega
          have HNOi := Lib.hid (fun a => HNO.out i a (by first | exact hlt | (rw [HMM.out]; exact hlt)))
          have HNEXT : Hid ((∀ a, a ≤ n → ¬ (litB (mets L) s a (nx r i) = true ∧ litB (mets L) s a (nx r (i + 1)) = true)) → ∀ t, t < i + 1 → t + 1 < m → ∀ a, a ≤ n → ¬ (litB (mets L) s a (nx r t) = true ∧ litB (mets L) s a (nx r (t + 1)) = true)) := Lib.hid (fun h t ht => by
            rcases Nat.lt_succ_iff_lt_or_eq.1 ht with h' | rfl
            · exact hQ.out t h'
            · exact fun _ => h)
          clear hQ
          generalize hx1 : nx r i = x at *
          generalize hx2 : nx r (i + 1) = y at *
          clear hx1 hx2
          go_wp2
          go_loopg [11] (n + 1) (fun kk u wr => ∃ a : Nat, u = .int .i64 a ∧ a ≤ n + 1 ∧ n + 1 - a ≤ kk ∧ Hid (∀ t, t < a → ¬ (litB (mets L) s t x = true ∧ litB (mets L) s t y = true)) ∧ w2 = wr)
          case atStart => exact ⟨0, rfl, by omega, by omega, Lib.hid (fun t ht => by omega), rfl⟩
          case round =>
            obtain ⟨a, rfl, ha, hak, hT, rfl⟩ := hrel
            by_cases han : a ≤ n
            · have hani : (a : Int) ≤ (n : Int) := by omega
              have HX := Lib.hid (fun (_ : World) => HT.out w2 A' c' a x (by first | exact han | (rw [HN.out]; exact han)) HRM.out)
              have HY := Lib.hid (fun (_ : World) => HT.out w2 A' c' a y (by first | exact han | (rw [HN.out]; exact han)) HRM.out)
              have HTN : Hid (¬ (litB (mets L) s a x = true ∧ litB (mets L) s a y = true) → ∀ t, t < a + 1 → ¬ (litB (mets L) s t x = true ∧ litB (mets L) s t y = true)) := Lib.hid (fun h t ht => by
                rcases Nat.lt_succ_iff_lt_or_eq.1 ht with h' | rfl
                · exact hT.out t h'
                · exact h)
              clear hT
              cases hlx : litB (mets L) s a x
              · rw [hlx] at HX HTN
                have HTT := Lib.hid (HTN.out (by simp))
                clear hlx HTN
                go_wp2_with (go_at_call 99; refine (HX.out w2).mono ?_; rintro e w' ⟨rfl, rfl⟩)
                go_roundg (n + 1 - (a + 1))
                case measure => omega
                case rel => exact ⟨a + 1, by go_num, by omega, by omega, HTT, rfl⟩
              · cases hly : litB (mets L) s a y
                · rw [hlx] at HX HTN
                  rw [hly] at HY HTN
                  have HTT := Lib.hid (HTN.out (by simp))
                  clear hlx hly HTN
                  go_wp2_with (go_at_call 99; first | (have := tok; refine (HY.out w2).mono ?_; rintro e w' ⟨rfl, rfl⟩) | (refine (HX.out w2).mono ?_; rintro e w' ⟨rfl, rfl⟩; have tok := trivial))
                  go_roundg (n + 1 - (a + 1))
                  case measure => omega
                  case rel => exact ⟨a + 1, by go_num, by omega, by omega, HTT, rfl⟩
                · have HF := Lib.hid (HNOi.out a (by first | exact han | (rw [HN.out]; exact han)) hlx hly)
                  rw [hlx] at HX
                  rw [hly] at HY
                  clear hlx hly HTN
                  go_wp2_with (go_at_call 99; first | (have := tok; refine (HY.out w2).mono ?_; rintro e w' ⟨rfl, rfl⟩) | (refine (HX.out w2).mono ?_; rintro e w' ⟨rfl, rfl⟩; have tok := trivial))
                  go_ret2
                  exact ⟨ret_bi HF.out.symm rfl, HB2.out⟩
            · have hani : ¬ (a : Int) ≤ (n : Int) := by omega
              have HN2 := Lib.hid (HNEXT.out (fun a' ha' => hT.out a' (by omega)))
              clear hT
              go_wp2
              go_roundg (m - (i + 1))
              case measure => omega
              case rel => exact ⟨i + 1, by go_num, by omega, by omega, HN2, rfl⟩
        · have hlti : ¬ (i : Int) + 1 < (m : Int) := by omega
          have HF := Lib.hid (HYES.out (fun t ht a ha => hQ.out t (by first | omega | (rw [HMM.out] at ht; omega)) (by first | exact ht | (rw [HMM.out] at ht; exact ht)) a (by first | exact ha | (rw [HN.out] at ha; exact ha))))
          have hm6i : (m : Int) ≤ 600 := by omega
          clear hQ
          go_wp2
          go_ret2
          exact ⟨ret_bi HF.out.symm rfl, HB2.out⟩
  · have hE : gate (vld L) (DarkR L s la) = gate (vld L) (btw 0 s 100000) := by
      unfold DarkR; unfold gate at hg0 ⊢
      cases hv : vld L <;> cases hs : btw 0 s 100000 <;> simp [hv, hs] at hg0 ⊢
    have hV : DarkB L s la = false := by simp [DarkB, hE, hg0]
    rw [hE, hV]
    have hne : ¬ gate (vld L) (btw 0 s 100000) = 0 := hg0
    generalize gate (vld L) (btw 0 s 100000) = er at *
    clear hr hr2 hE hV hg0
    go_enter Try.func53, Try.ntmps53
    go_wp2_with (go_at_call 95; refine HA.out.mono ?_; rintro e w' ⟨rfl, rfl⟩)
    go_ret2
    exact ⟨rfl, Below.refl _ _⟩
end Go.Proofs.Ytnodeooammplfaa
