/- The walk of WaveBytes. -/
import Derived.Test.YteodljaphkpimaaDoorWvBd
import Derived.Test.YteodljaphkpimaaDoorWavePacksW
namespace Go.Proofs.YteodljaphkpimaaDoor
open Go.RowKit Go.Shelf
set_option linter.unusedSimpArgs false
set_option linter.unusedVariables false
attribute [local go_sem] Oper.semAt_some

theorem packL_bytes {t : Tx} (h : t.length ≤ 1000) : ∀ k, k < (packL t).length → 0 ≤ ix (packL t) k ∧ ix (packL t) k ≤ 255 := fun k hk => by
  rw [packL_len] at hk
  by_cases h2 : 2 ≤ k
  · obtain ⟨j, rfl⟩ : ∃ j, k = 2 + j := ⟨k - 2, by omega⟩
    unfold packL
    rw [pkS_ix t _ (by omega)]
    exact pv_bd t _ _
  · have : k = 0 ∨ k = 1 := by omega
    rcases this with rfl | rfl
    · show 0 ≤ ((t.length / 256 : Nat) : Int) ∧ ((t.length / 256 : Nat) : Int) ≤ 255
      omega
    · show 0 ≤ ((t.length % 256 : Nat) : Int) ∧ ((t.length % 256 : Nat) : Int) ≤ 255
      omega
/-- a text comes back from its bytes -/
theorem up_of_pack {t : Tx} (hb : bitsB t = true) (hl : t.length ≤ 1000) : upE (packL t) = 0 ∧ upR (packL t) = t := by
  have hn : upN (packL t) = t.length := by
    show (((t.length / 256 : Nat) : Int) * 256 + ((t.length % 256 : Nat) : Int)).toNat = t.length
    omega
  have h := up_some (l := packL t) (by
    rw [hn, packL_len, up_pack hb]
    refine ⟨by omega, by unfold nB; omega, by unfold nB; omega, rfl⟩)
  rw [hn, up_pack hb] at h
  exact h
/-- bytes come back from their text -/
theorem pack_of_up {l : List Int} (h : upE l = 0) : vbB (upR l) = true ∧ packL (upR l) = l := by
  by_cases hc : 2 ≤ l.length ∧ l.length ≤ 127 ∧ upN l ≤ 8 * (l.length - 2) ∧ packL (upT l (upN l)) = l
  · obtain ⟨h1, h2⟩ := up_some hc
    rw [h2]
    exact ⟨vbB_iff.2 ⟨by rw [upT_len]; omega, upT_bits _ _⟩, hc.2.2.2⟩
  · rw [(up_none hc).1] at h
    cases h
theorem up_bad {l : List Int} (h : upE l ≠ 0) : upE l = 3 ∧ upR l = [] := by
  by_cases hc : 2 ≤ l.length ∧ l.length ≤ 127 ∧ upN l ≤ 8 * (l.length - 2) ∧ packL (upT l (upN l)) = l
  · exact absurd (up_some hc).1 h
  · exact up_none hc
set_option maxRecDepth 100000 in
set_option maxHeartbeats 8000000 in
theorem WaveBytes_walk (w : World) (s : ByteArray) (hs : s.size ≤ maxLen) (A1 : Option Addr) (c1 : Nat) (l1 : List Int) (hr1 : RdY w w.heap.size A1 l1 ∧ ∀ x ∈ l1, (Lit.int .u8 x).wf = true) (hl1 : l1.length ≤ maxLen) :
    Calls Tryd.prog 6 #[.string s, .slice A1 l1.length c1] w fun e w' => e = .returned (.bool true) ∧ Below w.heap.size w w' := by
  obtain ⟨t, rfl, hts⟩ := str_list s
  clear hs hts
  have hby := byte_of hr1.2
  replace hr1 := hr1.1
  have HLo := Lib.hid (fun W => Long_any t W)
  have HAw := Lib.hid Awake_any
  by_cases hM3 : 2000 < (t.length : Int)
  · rw [show decide (2000 < (t.length : Int)) = true from decide_eq_true hM3] at HLo
    clear hr1 hby hM3
    go_enter Tryd.func6, Tryd.ntmps6
    go_wp2_with (first
      | (go_at_call 14; refine (HLo.out _).mono ?_; rintro e w1 ⟨rfl, rfl⟩)
      | (go_at_call 15; refine (HAw.out _).mono ?_; rintro e w2 ⟨rfl, h2⟩))
    go_ret
    exact ⟨rfl, h2⟩
  · rw [show decide (2000 < (t.length : Int)) = false from decide_eq_false hM3] at HLo
    by_cases hM1 : 500 < (l1.length : Int)
    · clear hr1 hby hM3
      go_enter Tryd.func6, Tryd.ntmps6
      go_wp2_with (first
        | (go_at_call 14; refine (HLo.out _).mono ?_; rintro e w1 ⟨rfl, rfl⟩)
        | (go_at_call 15; refine (HAw.out _).mono ?_; rintro e w2 ⟨rfl, h2⟩))
      go_ret
      exact ⟨rfl, h2⟩
    · have H1 := Lib.hid (fun W => Pack_any t W (by omega))
      have H3 := Lib.hid (fun W (hW : Below w.heap.size w W) => Unpack_any A1 c1 l1 W (hr1.on hW) (by omega) hby)
      have H6 := Lib.hid (fun W (hW : Below w.heap.size w W) => hr1.on hW)
      have hl1b : l1.length ≤ 1000000 := by omega
      unfold LisYE at H1
      unfold TxE at H3
      -- what the first text says
      have HP : Hid ((paE t = 0 ∧ ∀ A c W, RdY W W.heap.size A (paL t) → Calls Tryd.prog 30 #[.slice A (paL t).length c] W fun e w' => e = .returned (.tuple #[.string ⟨t.toArray⟩, .int .i64 0]) ∧ Below W.heap.size W w') ∨ (paE t = 31 ∧ paL t = [])) := Lib.hid (by
        unfold paE paL
        cases hv : vbB t
        · exact .inr ⟨rfl, rfl⟩
        · refine .inl ⟨rfl, fun A c W h => ?_⟩
          obtain ⟨hl, hb⟩ := vbB_iff.1 hv
          obtain ⟨h1, h2⟩ := up_of_pack hb hl
          have := Unpack_any A c (packL t) W (by simpa using h) (by rw [packL_len]; unfold nB; omega) (packL_bytes hl)
          unfold TxE at this
          rw [h1, h2] at this
          simpa using this)
      -- what the second bytes say
      have HQ : Hid ((upE l1 = 3 ∧ upR l1 = []) ∨ (upE l1 = 0 ∧ ∀ W, Calls Tryd.prog 29 #[.string ⟨(upR l1).toArray⟩] W fun e w' => Below W.heap.size W w' ∧ ∃ A c, e = .returned (.tuple #[.slice A l1.length c, .int .i64 0]) ∧ RdY w' w'.heap.size A l1)) := Lib.hid (by
        by_cases h : upE l1 = 0
        · refine .inr ⟨h, fun W => ?_⟩
          obtain ⟨hv, hp⟩ := pack_of_up h
          have := Pack_any (upR l1) W (by have := (vbB_iff.1 hv).1; omega)
          unfold LisYE paL paE at this
          rw [hv, hp] at this
          simpa using this
        · exact .inl (up_bad h))
      have HS1 := Lib.hid (fun A c A2 c2 W h1 h2 => SameBytesY_any A c A2 c2 l1 l1 W h1 h2 hl1b hl1b)
      rw [show decide (l1 = l1) = true from decide_eq_true rfl] at HS1
      clear hr1 hby hM3 hl1b
      generalize paL t = P at *
      generalize paE t = E at *
      generalize upR l1 = U at *
      generalize upE l1 = F at *
      rcases HP.out with ⟨rfl, hup⟩ | ⟨rfl, rfl⟩
      · have HUP := Lib.hid hup
        clear hup HP
        rcases HQ.out with ⟨rfl, rfl⟩ | ⟨rfl, hpk⟩
        · clear HQ
          generalize P.length = np at *
          generalize l1.length = n1 at *
          go_enter Tryd.func6, Tryd.ntmps6
          go_wp2_with (first
            | (go_at_call 14; refine (HLo.out _).mono ?_; rintro e w1 ⟨rfl, rfl⟩)
            | (go_at_call 29; refine (H1.out _).mono ?_; rintro e w3 ⟨h3, A3, c3, rfl, hr3⟩; replace hr3 := Lib.hid hr3)
            | (go_at_call 30; have := h4; refine (H3.out _ (h3.trs h4)).mono ?_; rintro e w5 ⟨rfl, h5⟩)
            | (go_at_call 30; refine (HUP.out _ _ _ hr3.out).mono ?_; rintro e w4 ⟨rfl, h4⟩)
            | (go_at_call 15; refine (HAw.out _).mono ?_; rintro e w8 ⟨rfl, h8⟩))
          go_ret
          exact ⟨rfl, ((h3.trs h4).trs h5).trs h8⟩
        · have HPK := Lib.hid hpk
          clear hpk HQ
          generalize P.length = np at *
          generalize l1.length = n1 at *
          go_enter Tryd.func6, Tryd.ntmps6
          go_wp2_with (first
            | (go_at_call 14; refine (HLo.out _).mono ?_; rintro e w1 ⟨rfl, rfl⟩)
            | (go_at_call 29; have := h5; refine (HPK.out _).mono ?_; rintro e w6 ⟨h6, A6, c6, rfl, hr6⟩; replace hr6 := Lib.hid hr6)
            | (go_at_call 29; refine (H1.out _).mono ?_; rintro e w3 ⟨h3, A3, c3, rfl, hr3⟩; replace hr3 := Lib.hid hr3)
            | (go_at_call 30; have := h4; refine (H3.out _ (h3.trs h4)).mono ?_; rintro e w5 ⟨rfl, h5⟩)
            | (go_at_call 30; refine (HUP.out _ _ _ hr3.out).mono ?_; rintro e w4 ⟨rfl, h4⟩)
            | (go_at_call 31; refine (HS1.out _ _ _ _ _ hr6.out (H6.out _ (((h3.trs h4).trs h5).trs h6))).mono ?_; rintro e w7 ⟨rfl, h7⟩)
            | (go_at_call 15; refine (HAw.out _).mono ?_; rintro e w8 ⟨rfl, h8⟩))
          go_ret
          exact ⟨rfl, ((((h3.trs h4).trs h5).trs h6).trs h7).trs h8⟩
      · clear HP
        rcases HQ.out with ⟨rfl, rfl⟩ | ⟨rfl, hpk⟩
        · clear HQ
          generalize l1.length = n1 at *
          go_enter Tryd.func6, Tryd.ntmps6
          go_wp2_with (first
            | (go_at_call 14; refine (HLo.out _).mono ?_; rintro e w1 ⟨rfl, rfl⟩)
            | (go_at_call 29; refine (H1.out _).mono ?_; rintro e w3 ⟨h3, A3, c3, rfl, hr3⟩; replace hr3 := Lib.hid hr3)
            | (go_at_call 30; refine (H3.out _ (h3)).mono ?_; rintro e w5 ⟨rfl, h5⟩)
            | (go_at_call 15; refine (HAw.out _).mono ?_; rintro e w8 ⟨rfl, h8⟩))
          go_ret
          exact ⟨rfl, (h3.trs h5).trs h8⟩
        · have HPK := Lib.hid hpk
          clear hpk HQ
          generalize l1.length = n1 at *
          go_enter Tryd.func6, Tryd.ntmps6
          go_wp2_with (first
            | (go_at_call 14; refine (HLo.out _).mono ?_; rintro e w1 ⟨rfl, rfl⟩)
            | (go_at_call 29; have := h5; refine (HPK.out _).mono ?_; rintro e w6 ⟨h6, A6, c6, rfl, hr6⟩; replace hr6 := Lib.hid hr6)
            | (go_at_call 29; refine (H1.out _).mono ?_; rintro e w3 ⟨h3, A3, c3, rfl, hr3⟩; replace hr3 := Lib.hid hr3)
            | (go_at_call 30; refine (H3.out _ (h3)).mono ?_; rintro e w5 ⟨rfl, h5⟩)
            | (go_at_call 31; refine (HS1.out _ _ _ _ _ hr6.out (H6.out _ ((h3.trs h5).trs h6))).mono ?_; rintro e w7 ⟨rfl, h7⟩)
            | (go_at_call 15; refine (HAw.out _).mono ?_; rintro e w8 ⟨rfl, h8⟩))
          go_ret
          exact ⟨rfl, (((h3.trs h5).trs h6).trs h7).trs h8⟩
end Go.Proofs.YteodljaphkpimaaDoor
