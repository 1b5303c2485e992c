/- Walks over the reference of ice: Lamps, Dark, AreDark; equal lists. -/
import Derived.Test.YtbocedbonaeohaaIceU
namespace Go.Proofs.Ytbocedbonaeohaa
set_option linter.unusedVariables false
open Go.RowKit

set_option maxRecDepth 100000 in
set_option maxHeartbeats 4000000 in
theorem refAreDark_any (A A2 : Option Addr) (c c2 : Nat) (L : List (Int × Int)) (s : Int) (la : List Int) (w : World) (hr : RdP w w.heap.size A L) (hl : L.length ≤ 1125899906842624) (hr2 : RdI w w.heap.size A2 la) (hl2 : la.length ≤ 1000000) :
    Calls Try.prog 13 #[.slice A L.length c, .int .i64 s, .slice A2 la.length c2] w fun e w' => e = .returned (.tuple #[.bool (DarkB L s la), .int .i64 (gate (vld L) (DarkR L s la))]) ∧ Below w.heap.size w w' := by
  have HA := Lib.hid (refasked_any A c L s w hr hl)
  by_cases hg0 : gate (vld L) (btw 0 s 100000) = 0
  · have hv : vld L = true := by
      cases h : vld L
      · rw [h] at hg0; simp [gate] at hg0
      · rfl
    have hs : btw 0 s 100000 = true := by
      cases h : btw 0 s 100000
      · rw [h, hv] at hg0; simp [gate] at hg0
      · rfl
    have hok := okL_of_vld hv
    have h600 := mets_len600 hok
    have hne := vld_ne hv
    have HM := Lib.hid (Metres_any A c L w hr hok)
    have hsb := btw_iff.1 hs
    have hR : DarkR L s la = riseB la (((mets L).length : Int) - 1) := by unfold DarkR; rw [hs]; rfl
    have hww : IntKind.i64.wrap (((mets L).length : Int) - 1) = ((mets L).length : Int) - 1 := IntWalk.i64_in _ (by omega)
    rw [hg0] at HA
    have HAS := Lib.hid (fun W (hW : Below w.heap.size w W) => ascends_any A2 c2 la (((mets L).length : Int) - 1) W (hr2.on hW) hl2)
    cases hrb : riseB la (((mets L).length : Int) - 1)
    · have hE : gate (vld L) (DarkR L s la) = 2 := gate_arg hv (by rw [hR, hrb])
      have hV : DarkB L s la = false := by simp [DarkB, hE]
      rw [hE, hV]
      rw [hrb] at HAS
      clear hr hr2 hg0 hv hs hok hsb hR hrb hE hV
      generalize (mets L).length = n at *
      go_enter Try.func13, Try.ntmps13
      go_wp2_with (first
        | (go_at_call 31; refine HA.out.mono ?_; rintro e w' ⟨rfl, rfl⟩)
        | (go_at_call 32; refine HM.out.mono ?_; rintro e w1 ⟨hB, A', c', rfl, hR⟩; have HR := Lib.hid hR; clear hR)
        | (go_at_call 33; refine (HAS.out _ hB).mono ?_; rintro e w2 ⟨rfl, h2⟩))
      go_ret2
      exact ⟨rfl, hB.trs h2⟩
    · have hDR : DarkR L s la = true := by rw [hR, hrb]
      obtain ⟨_, _, r, rfl, hrr, hV⟩ := dark_nat hv hDR
      have hE : gate (vld L) (DarkR L s (natL r)) = 0 := gate_ok hv hDR
      have hnn : ∀ d ∈ mets L, 0 ≤ d := fun d hd => (mets_mem hok d hd).1
      have hcnt := rises_count hrr
      have hdi := darkB_iff hnn hsb.1 hrr hne
      have HNO : Hid (∀ i a, i + 1 < r.length → a ≤ (mets L).length → litB (mets L) s a (nx r i) = true → litB (mets L) s a (nx r (i + 1)) = true → DarkB L s (natL r) = false) := Lib.hid (fun i a hi ha h1 h2 => by
        rw [hV]
        cases hd : darkB (mets L) s r
        · rfl
        · exact absurd ⟨a, ha, litB_iff.1 h1, litB_iff.1 h2⟩ ((darks_iff r).1 (hdi.1 hd) i hi))
      have HYES : Hid ((∀ i, i + 1 < r.length → ∀ a, a ≤ (mets L).length → ¬ (litB (mets L) s a (nx r i) = true ∧ litB (mets L) s a (nx r (i + 1)) = true)) → DarkB L s (natL r) = true) := Lib.hid (fun h => by
        rw [hV]
        exact hdi.2 ((darks_iff r).2 (fun k hk hex => by
          obtain ⟨a, ha, h1, h2⟩ := hex
          exact h k hk a ha ⟨litB_iff.2 h1, litB_iff.2 h2⟩)))
      rw [hE]
      rw [hrb] at HAS
      have hix := ix_bounds hok
      have HT := Lib.hid (fun W A' c' a m (ha : a ≤ (mets L).length) h => reflights_any A' c' (mets L) a m s W h hix h600 ha hsb.1 (by omega))
      have HR2 := Lib.hid hr2
      have HIXR := Lib.hid (ix_natL r)
      have hnl := natL_len r
      generalize hVV : DarkB L s (natL r) = V at *
      clear hr hr2 hg0 hv hs hok hR hrb hE hV hVV hnn hix hrr hDR hdi
      rw [hnl] at HAS
      rw [hnl]
      have HNLL := Lib.hid hnl; clear hnl
      have hm6 : r.length ≤ 600 := by omega
      clear hcnt
      generalize hn : (mets L).length = n at *
      have HN := Lib.hid hn; clear hn
      generalize hm : r.length = m at *
      have HMM := Lib.hid hm; clear hm
      go_enter Try.func13, Try.ntmps13
      go_wp2_with (first
        | (go_at_call 31; refine HA.out.mono ?_; rintro e w' ⟨rfl, rfl⟩)
        | (go_at_call 32; refine HM.out.mono ?_; rintro e w1 ⟨hB, A', c', rfl, hR⟩; have HR := Lib.hid hR; clear hR)
        | (go_at_call 33; refine (HAS.out _ hB).mono ?_; rintro e w2 ⟨rfl, h2⟩))
      have HB2 := Lib.hid (hB.trs h2)
      have HRM := Lib.hid (HR.out.on h2)
      have HLA := Lib.hid (HR2.out.on (hB.trs h2))
      clear h2 hB
      go_loopg [10] m (fun kk u wr => ∃ i : Nat, u = .int .i64 i ∧ i ≤ m ∧ m - i ≤ kk ∧ Hid (∀ t, t < i → t + 1 < m → ∀ a, a ≤ n → ¬ (litB (mets L) s a (nx r t) = true ∧ litB (mets L) s a (nx r (t + 1)) = true)) ∧ w2 = wr)
      case atStart => exact ⟨0, rfl, by omega, by omega, Lib.hid (fun t ht => by omega), rfl⟩
      case round =>
        obtain ⟨i, rfl, hi, hkk, hQ, rfl⟩ := hrel
        by_cases hlt : i + 1 < m
        · have hlti : (i : Int) + 1 < (m : Int) := by omega
          have hlti2 : (i : Int) < (m : Int) := by omega
          obtain ⟨b, o, rfl, hb, q1⟩ := HLA.out.at_ (k := i) (by rw [HNLL.out]; omega)
          obtain ⟨b', o', he, _, q2⟩ := HLA.out.at_ (k := i + 1) (by rw [HNLL.out]; exact hlt)
          injection he with he
          injection he with e1 e2 _
          subst e1; subst e2
          rw [HIXR.out] at q1 q2
          have hi5 : ((i : Int) + 1).toNat = i + 1 := by omega
          have hi6 : 0 ≤ (i : Int) + 1 := by omega
          have HNOi := Lib.hid (fun a => HNO.out i a (by first | exact hlt | (rw [HMM.out]; exact hlt)))
          have HNEXT : Hid ((∀ a, a ≤ n → ¬ (litB (mets L) s a (nx r i) = true ∧ litB (mets L) s a (nx r (i + 1)) = true)) → ∀ t, t < i + 1 → t + 1 < m → ∀ a, a ≤ n → ¬ (litB (mets L) s a (nx r t) = true ∧ litB (mets L) s a (nx r (t + 1)) = true)) := Lib.hid (fun h t ht => by
            rcases Nat.lt_succ_iff_lt_or_eq.1 ht with h' | rfl
            · exact hQ.out t h'
            · exact fun _ => h)
          clear hQ
          generalize hx1 : nx r i = x at *
          generalize hx2 : nx r (i + 1) = y at *
          clear hx1 hx2
          go_wp2
          go_loopg [11] (n + 1) (fun kk u wr => ∃ a : Nat, u = .int .i64 a ∧ a ≤ n + 1 ∧ n + 1 - a ≤ kk ∧ Hid (∀ t, t < a → ¬ (litB (mets L) s t x = true ∧ litB (mets L) s t y = true)) ∧ w2 = wr)
          case atStart => exact ⟨0, rfl, by omega, by omega, Lib.hid (fun t ht => by omega), rfl⟩
          case round =>
            obtain ⟨a, rfl, ha, hak, hT, rfl⟩ := hrel
            by_cases han : a ≤ n
            · have hani : (a : Int) ≤ (n : Int) := by omega
              have HX := Lib.hid (fun (_ : World) => HT.out w2 A' c' a x (by first | exact han | (rw [HN.out]; exact han)) HRM.out)
              have HY := Lib.hid (fun (_ : World) => HT.out w2 A' c' a y (by first | exact han | (rw [HN.out]; exact han)) HRM.out)
              have HTN : Hid (¬ (litB (mets L) s a x = true ∧ litB (mets L) s a y = true) → ∀ t, t < a + 1 → ¬ (litB (mets L) s t x = true ∧ litB (mets L) s t y = true)) := Lib.hid (fun h t ht => by
                rcases Nat.lt_succ_iff_lt_or_eq.1 ht with h' | rfl
                · exact hT.out t h'
                · exact h)
              clear hT
              cases hlx : litB (mets L) s a x
              · rw [hlx] at HX HTN
                have HTT := Lib.hid (HTN.out (by simp))
                clear hlx HTN
                go_wp2_with (go_at_call 36; refine (HX.out w2).mono ?_; rintro e w' ⟨rfl, rfl⟩)
                go_roundg (n + 1 - (a + 1))
                case measure => omega
                case rel => exact ⟨a + 1, by go_num, by omega, by omega, HTT, rfl⟩
              · cases hly : litB (mets L) s a y
                · rw [hlx] at HX HTN
                  rw [hly] at HY HTN
                  have HTT := Lib.hid (HTN.out (by simp))
                  clear hlx hly HTN
                  go_wp2_with (go_at_call 36; first | (have := tok; refine (HY.out w2).mono ?_; rintro e w' ⟨rfl, rfl⟩) | (refine (HX.out w2).mono ?_; rintro e w' ⟨rfl, rfl⟩; have tok := trivial))
                  go_roundg (n + 1 - (a + 1))
                  case measure => omega
                  case rel => exact ⟨a + 1, by go_num, by omega, by omega, HTT, rfl⟩
                · have HF := Lib.hid (HNOi.out a (by first | exact han | (rw [HN.out]; exact han)) hlx hly)
                  rw [hlx] at HX
                  rw [hly] at HY
                  clear hlx hly HTN
                  go_wp2_with (go_at_call 36; first | (have := tok; refine (HY.out w2).mono ?_; rintro e w' ⟨rfl, rfl⟩) | (refine (HX.out w2).mono ?_; rintro e w' ⟨rfl, rfl⟩; have tok := trivial))
                  go_ret2
                  exact ⟨ret_bi HF.out.symm rfl, HB2.out⟩
            · have hani : ¬ (a : Int) ≤ (n : Int) := by omega
              have HN2 := Lib.hid (HNEXT.out (fun a' ha' => hT.out a' (by omega)))
              clear hT
              go_wp2
              go_roundg (m - (i + 1))
              case measure => omega
              case rel => exact ⟨i + 1, by go_num, by omega, by omega, HN2, rfl⟩
        · have hlti : ¬ (i : Int) + 1 < (m : Int) := by omega
          have HF := Lib.hid (HYES.out (fun t ht a ha => hQ.out t (by first | omega | (rw [HMM.out] at ht; omega)) (by first | exact ht | (rw [HMM.out] at ht; exact ht)) a (by first | exact ha | (rw [HN.out] at ha; exact ha))))
          have hm6i : (m : Int) ≤ 600 := by omega
          clear hQ
          go_wp2
          go_ret2
          exact ⟨ret_bi HF.out.symm rfl, HB2.out⟩
  · have hE : gate (vld L) (DarkR L s la) = gate (vld L) (btw 0 s 100000) := by
      unfold DarkR; unfold gate at hg0 ⊢
      cases hv : vld L <;> cases hs : btw 0 s 100000 <;> simp [hv, hs] at hg0 ⊢
    have hV : DarkB L s la = false := by simp [DarkB, hE, hg0]
    rw [hE, hV]
    have hne : ¬ gate (vld L) (btw 0 s 100000) = 0 := hg0
    generalize gate (vld L) (btw 0 s 100000) = er at *
    clear hr hr2 hE hV hg0
    go_enter Try.func13, Try.ntmps13
    go_wp2_with (go_at_call 31; refine HA.out.mono ?_; rintro e w' ⟨rfl, rfl⟩)
    go_ret2
    exact ⟨rfl, Below.refl _ _⟩
end Go.Proofs.Ytbocedbonaeohaa
