/- The walk of WaveDecodes. -/
import Derived.Test.YteodljaphkpimaaDoorWvQg
namespace Go.Proofs.YteodljaphkpimaaDoor
open Go.RowKit Go.Shelf
set_option linter.unusedSimpArgs false
set_option linter.unusedVariables false
attribute [local go_sem] Oper.semAt_some

/-- the widths are as many as the differences -/
theorem rd_lens : ∀ (n : Nat) (lo : Bool) (t : Tx) (k : Nat) (r : Rd), t.length = n → rdF lo t k = some r → r.2.1.length = r.1.length := by
  intro n
  induction n using Nat.strongRecOn with
  | _ n ih =>
    intro lo t k r hn h
    have hw := (okW_le (wid_ok k)).1
    rw [rdF] at h
    split at h
    · injection h with h; subst h; rfl
    · rename_i h0
      split at h
      · cases h
      · split at h
        · obtain ⟨r', hr', rfl⟩ := Option.map_eq_some_iff.1 h
          have := ih _ (by rw [List.length_drop]; omega) false _ k r' rfl hr'
          simp [this]
        · split at h
          · cases h
          · split at h
            · split at h
              · obtain ⟨r', hr', rfl⟩ := Option.map_eq_some_iff.1 h
                exact ih _ (by rw [List.length_drop]; omega) true _ _ r' rfl hr'
              · cases h
            · split at h
              · obtain ⟨r', hr', rfl⟩ := Option.map_eq_some_iff.1 h
                exact ih _ (by rw [List.length_drop]; omega) true _ _ r' rfl hr'
              · cases h
theorem dW_len (t : Tx) : (dW t).length = (dD t).length := by
  rcases de_cases t with ⟨-, -, hd, hw, -⟩ | ⟨-, -, -, hd, hw, -⟩ | ⟨d, ws, m, -, ho, -, hd, hw, -⟩
  · rw [hd, hw]
  · rw [hd, hw]
  · rw [hd, hw]
    exact rd_lens _ false t 2 _ rfl (deO_ok ho).2
theorem dW_len2 (t : Tx) : (dW t).length ≤ 1000000 := by rw [dW_len]; exact dD_len t
set_option maxRecDepth 100000 in
set_option maxHeartbeats 8000000 in
theorem WaveDecodes_walk (w : World) (A : Option Addr) (c : Nat) (l : List Int) (hr : RdI w w.heap.size A l ∧ ∀ x ∈ l, (Lit.int .i64 x).wf = true) (hl : l.length ≤ maxLen) (s : ByteArray) (hs : s.size ≤ maxLen) :
    Calls Tryd.prog 8 #[.slice A l.length c, .string s] w fun e w' => e = .returned (.bool true) ∧ Below w.heap.size w w' := by
  obtain ⟨t, rfl, hts⟩ := str_list s
  clear hs hts
  replace hr := hr.1
  have HMa := Lib.hid (fun W => Many_any A c l.length W)
  have HLo := Lib.hid (fun W => Long_any t W)
  have HAw := Lib.hid Awake_any
  by_cases hM : 200 < (l.length : Int)
  · rw [show decide (200 < (l.length : Int)) = true from decide_eq_true hM] at HMa
    clear hr hM
    go_enter Tryd.func8, Tryd.ntmps8
    go_wp2_with (first
      | (go_at_call 13; refine (HMa.out _).mono ?_; rintro e w1 ⟨rfl, rfl⟩)
      | (go_at_call 15; refine (HAw.out _).mono ?_; rintro e w2 ⟨rfl, h2⟩))
    go_ret
    exact ⟨rfl, h2⟩
  · rw [show decide (200 < (l.length : Int)) = false from decide_eq_false hM] at HMa
    by_cases hM3 : 2000 < (t.length : Int)
    · rw [show decide (2000 < (t.length : Int)) = true from decide_eq_true hM3] at HLo
      clear hr hM hM3
      go_enter Tryd.func8, Tryd.ntmps8
      go_wp2_with (first
        | (go_at_call 13; refine (HMa.out _).mono ?_; rintro e w1 ⟨rfl, rfl⟩)
        | (go_at_call 14; refine (HLo.out _).mono ?_; rintro e w1 ⟨rfl, rfl⟩)
        | (go_at_call 15; refine (HAw.out _).mono ?_; rintro e w2 ⟨rfl, h2⟩))
      go_ret
      exact ⟨rfl, h2⟩
    · rw [show decide (2000 < (t.length : Int)) = false from decide_eq_false hM3] at HLo
      have H1 := Lib.hid (fun W => Decode_any t W (by omega))
      have H2 := Lib.hid (fun W => refDecode_any t W (by omega))
      have H3 := Lib.hid (fun W => Widths_any t W (by omega))
      have H4 := Lib.hid (fun W => refWidths_any t W (by omega))
      have H5 := Lib.hid (fun W => Changes_any t W (by omega))
      have H6 := Lib.hid (fun W => refChanges_any t W (by omega))
      have H7 := Lib.hid (fun W (hW : Below w.heap.size w W) => IsText_any A c l t W (hr.on hW) (by omega) (by omega))
      have H8 := Lib.hid (fun W (hW : Below w.heap.size w W) => refIsText_any A c l t W (hr.on hW) (by omega) (by omega))
      have hal : (accL (dD t)).length ≤ 1000000 := by rw [accL_len]; exact dD_len t
      have hwl : (dW t).length ≤ 1000000 := dW_len2 t
      have HS1 := Lib.hid (fun A c A2 c2 W h1 h2 => SameInts_any A c A2 c2 (accL (dD t)) W h1 h2 hal)
      have HS2 := Lib.hid (fun A c A2 c2 W h1 h2 => SameInts_any A c A2 c2 (dW t) W h1 h2 hwl)
      unfold LisE at H1 H2 H3 H4
      clear hr hM hM3 hal hwl
      generalize accL (dD t) = D at *
      generalize dW t = V at *
      generalize dC t = m at *
      generalize deE t = E at *
      generalize isV l t = b at *
      generalize isE l t = F at *
      generalize l.length = n at *
      go_enter Tryd.func8, Tryd.ntmps8
      go_wp2_with (first
        | (go_at_call 13; refine (HMa.out _).mono ?_; rintro e w1 ⟨rfl, rfl⟩)
        | (go_at_call 14; refine (HLo.out _).mono ?_; rintro e w1 ⟨rfl, rfl⟩)
        | (go_at_call 36; refine (H1.out _).mono ?_; rintro e w3 ⟨h3, A3, c3, rfl, hr3⟩; replace hr3 := Lib.hid hr3)
        | (go_at_call 37; refine (H2.out _).mono ?_; rintro e w4 ⟨h4, A4, c4, rfl, hr4⟩; replace hr4 := Lib.hid hr4)
        | (go_at_call 24; have := h9; refine (HS2.out _ _ _ _ _ (hr6.out.on ((h7.trs h8).trs h9)) (hr7.out.on (h8.trs h9))).mono ?_; rintro e w10 ⟨rfl, h10⟩)
        | (go_at_call 24; refine (HS1.out _ _ _ _ _ (hr3.out.on h4) hr4.out).mono ?_; rintro e w5 ⟨rfl, h5⟩)
        | (go_at_call 38; refine (H3.out _).mono ?_; rintro e w6 ⟨h6, A6, c6, rfl, hr6⟩; replace hr6 := Lib.hid hr6)
        | (go_at_call 39; refine (H4.out _).mono ?_; rintro e w7 ⟨h7, A7, c7, rfl, hr7⟩; replace hr7 := Lib.hid hr7)
        | (go_at_call 40; refine (H5.out _).mono ?_; rintro e w8 ⟨rfl, h8⟩)
        | (go_at_call 41; refine (H6.out _).mono ?_; rintro e w9 ⟨rfl, h9⟩)
        | (go_at_call 42; refine (H7.out _ (((((((h3.trs h4).trs h5).trs h6).trs h7).trs h8).trs h9).trs h10)).mono ?_; rintro e w11 ⟨rfl, h11⟩)
        | (go_at_call 43; refine (H8.out _ ((((((((h3.trs h4).trs h5).trs h6).trs h7).trs h8).trs h9).trs h10).trs h11)).mono ?_; rintro e w12 ⟨rfl, h12⟩)
        | (go_at_call 15; refine (HAw.out _).mono ?_; rintro e w13 ⟨rfl, h13⟩))
      go_ret
      exact ⟨by simp, ((((((((((h3.trs h4).trs h5).trs h6).trs h7).trs h8).trs h9).trs h10).trs h11).trs h12)).trs h13⟩
end Go.Proofs.YteodljaphkpimaaDoor
