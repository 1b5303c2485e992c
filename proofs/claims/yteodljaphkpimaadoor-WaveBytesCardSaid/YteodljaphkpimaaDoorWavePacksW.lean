/- The walk of WavePacks. -/
import Derived.Test.YteodljaphkpimaaDoorWvBe
import Derived.Test.YteodljaphkpimaaDoorWvBf
import Derived.Test.YteodljaphkpimaaDoorWvWb
import Derived.Test.YteodljaphkpimaaDoorWvEq
namespace Go.Proofs.YteodljaphkpimaaDoor
open Go.RowKit Go.Shelf
set_option linter.unusedSimpArgs false
set_option linter.unusedVariables false
attribute [local go_sem] Oper.semAt_some

theorem byte_of {l : List Int} (h : ∀ x ∈ l, (Lit.int .u8 x).wf = true) : ∀ k, k < l.length → 0 ≤ ix l k ∧ ix l k ≤ 255 := fun k hk => by
  have h1 := h (ix l k) (by unfold ix; rw [List.getD_eq_getElem?_getD, List.getElem?_eq_getElem hk]; exact List.getElem_mem hk)
  simp [Lit.wf] at h1
  have h2 : IntKind.u8.min = 0 := by decide
  have h3 : IntKind.u8.max = 255 := by decide
  omega
theorem paL_len (t : Tx) : (paL t).length ≤ 1000000 := by
  unfold paL
  split
  · rename_i hv
    have := (vbB_iff.1 hv).1
    rw [packL_len]
    unfold nB
    omega
  · simp
set_option maxRecDepth 100000 in
set_option maxHeartbeats 8000000 in
theorem WavePacks_walk (w : World) (s : ByteArray) (hs : s.size ≤ maxLen) (A1 : Option Addr) (c1 : Nat) (l1 : List Int) (hr1 : RdY w w.heap.size A1 l1 ∧ ∀ x ∈ l1, (Lit.int .u8 x).wf = true) (hl1 : l1.length ≤ maxLen)
    (A : Option Addr) (c : Nat) (l : List Int) (hr : RdI w w.heap.size A l ∧ ∀ x ∈ l, (Lit.int .i64 x).wf = true) (hl : l.length ≤ maxLen) (m : Int) :
    Calls Tryd.prog 7 #[.string s, .slice A1 l1.length c1, .slice A l.length c, .int .i64 m] w fun e w' => e = .returned (.bool true) ∧ Below w.heap.size w w' := by
  obtain ⟨t, rfl, hts⟩ := str_list s
  clear hs hts
  have hby := byte_of hr1.2
  replace hr := hr.1
  replace hr1 := hr1.1
  have HMa := Lib.hid (fun W => Many_any A c l.length W)
  have HLo := Lib.hid (fun W => Long_any t W)
  have HAw := Lib.hid Awake_any
  by_cases hM3 : 2000 < (t.length : Int)
  · rw [show decide (2000 < (t.length : Int)) = true from decide_eq_true hM3] at HLo
    clear hr hr1 hby hM3
    go_enter Tryd.func7, Tryd.ntmps7
    go_wp2_with (first
      | (go_at_call 14; refine (HLo.out _).mono ?_; rintro e w1 ⟨rfl, rfl⟩)
      | (go_at_call 15; refine (HAw.out _).mono ?_; rintro e w2 ⟨rfl, h2⟩))
    go_ret
    exact ⟨rfl, h2⟩
  · rw [show decide (2000 < (t.length : Int)) = false from decide_eq_false hM3] at HLo
    by_cases hM1 : 500 < (l1.length : Int)
    · clear hr hr1 hby hM3
      go_enter Tryd.func7, Tryd.ntmps7
      go_wp2_with (first
        | (go_at_call 14; refine (HLo.out _).mono ?_; rintro e w1 ⟨rfl, rfl⟩)
        | (go_at_call 15; refine (HAw.out _).mono ?_; rintro e w2 ⟨rfl, h2⟩))
      go_ret
      exact ⟨rfl, h2⟩
    · by_cases hM : 200 < (l.length : Int)
      · rw [show decide (200 < (l.length : Int)) = true from decide_eq_true hM] at HMa
        clear hr hr1 hby hM hM3
        go_enter Tryd.func7, Tryd.ntmps7
        go_wp2_with (first
          | (go_at_call 14; refine (HLo.out _).mono ?_; rintro e w1 ⟨rfl, rfl⟩)
          | (go_at_call 13; refine (HMa.out _).mono ?_; rintro e w1 ⟨rfl, rfl⟩)
          | (go_at_call 15; refine (HAw.out _).mono ?_; rintro e w2 ⟨rfl, h2⟩))
        go_ret
        exact ⟨rfl, h2⟩
      · rw [show decide (200 < (l.length : Int)) = false from decide_eq_false hM] at HMa
        have H1 := Lib.hid (fun W => Pack_any t W (by omega))
        have H2 := Lib.hid (fun W => refPack_any t W (by omega))
        have H3 := Lib.hid (fun W (hW : Below w.heap.size w W) => Unpack_any A1 c1 l1 W (hr1.on hW) (by omega) hby)
        have H4 := Lib.hid (fun W (hW : Below w.heap.size w W) => refUnpack_any A1 c1 l1 W (hr1.on hW) (by omega) hby)
        have H5 := Lib.hid (fun W (hW : Below w.heap.size w W) => Quiet_any A c l m W (hr.on hW) (by omega))
        have H6 := Lib.hid (fun W (hW : Below w.heap.size w W) => refQuiet_any A c l m W (hr.on hW) (by omega))
        have hpl := paL_len t
        have HS1 := Lib.hid (fun A c A2 c2 W h1 h2 => SameBytesY_any A c A2 c2 (paL t) (paL t) W h1 h2 hpl hpl)
        have hql : (quL l m).length ≤ 1000000 := by unfold quL; split <;> (try rw [quI_len]) <;> (try simp) <;> omega
        have HS2 := Lib.hid (fun A c A2 c2 W h1 h2 => SameInts_any A c A2 c2 (quL l m) W h1 h2 hql)
        rw [show decide (paL t = paL t) = true from decide_eq_true rfl] at HS1
        unfold LisYE at H1 H2
        unfold TxE at H3 H4
        unfold LisE at H5 H6
        clear hr hr1 hby hM hM3 hpl hql
        generalize paL t = P at *
        generalize paE t = E at *
        generalize upR l1 = U at *
        generalize upE l1 = F at *
        generalize quL l m = Q at *
        generalize QuE l m = G at *
        generalize l.length = n at *
        generalize l1.length = n1 at *
        go_enter Tryd.func7, Tryd.ntmps7
        go_wp2_with (first
          | (go_at_call 14; refine (HLo.out _).mono ?_; rintro e w1 ⟨rfl, rfl⟩)
          | (go_at_call 13; refine (HMa.out _).mono ?_; rintro e w1 ⟨rfl, rfl⟩)
          | (go_at_call 29; refine (H1.out _).mono ?_; rintro e w3 ⟨h3, A3, c3, rfl, hr3⟩; replace hr3 := Lib.hid hr3)
          | (go_at_call 32; refine (H2.out _).mono ?_; rintro e w4 ⟨h4, A4, c4, rfl, hr4⟩; replace hr4 := Lib.hid hr4)
          | (go_at_call 30; refine (H3.out _ (h3.trs h4)).mono ?_; rintro e w5 ⟨rfl, h5⟩)
          | (go_at_call 33; refine (H4.out _ ((h3.trs h4).trs h5)).mono ?_; rintro e w6 ⟨rfl, h6⟩)
          | (go_at_call 31; refine (HS1.out _ _ _ _ _ (hr3.out.on ((h4.trs h5).trs h6)) (hr4.out.on (h5.trs h6))).mono ?_; rintro e w7 ⟨rfl, h7⟩)
          | (go_at_call 34; refine (H5.out _ ((((h3.trs h4).trs h5).trs h6).trs h7)).mono ?_; rintro e w8 ⟨h8, A8, c8, rfl, hr8⟩; replace hr8 := Lib.hid hr8)
          | (go_at_call 35; refine (H6.out _ (((((h3.trs h4).trs h5).trs h6).trs h7).trs h8)).mono ?_; rintro e w9 ⟨h9, A9, c9, rfl, hr9⟩; replace hr9 := Lib.hid hr9)
          | (go_at_call 24; refine (HS2.out _ _ _ _ _ (hr8.out.on h9) hr9.out).mono ?_; rintro e w10 ⟨rfl, h10⟩)
          | (go_at_call 15; refine (HAw.out _).mono ?_; rintro e w11 ⟨rfl, h11⟩))
        go_ret
        exact ⟨by simp, ((((((((h3.trs h4).trs h5).trs h6).trs h7).trs h8).trs h9).trs h10)).trs h11⟩
end Go.Proofs.YteodljaphkpimaaDoor
