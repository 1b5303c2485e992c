/- The walk of WaveNumbers. -/
import Derived.Test.YteodljaphkpimaaDoorWvWb
import Derived.Test.YteodljaphkpimaaDoorWvH
namespace Go.Proofs.YteodljaphkpimaaDoor
open Go.RowKit Go.Shelf
set_option linter.unusedSimpArgs false
set_option linter.unusedVariables false
attribute [local go_sem] Oper.semAt_some

theorem wrdE_cases (v n : Int) : (wrdE v n = 0 ∧ ∃ k, k < 5 ∧ v = (wid k : Int) ∧ -(hf (wid k)) ≤ n ∧ n < hf (wid k) ∧ wrdX v n = wordB (wid k) n) ∨ (wrdE v n = 2 ∧ wrdX v n = []) := by
  rcases okB_cases v with ⟨hv, k, hk, rfl⟩ | ⟨hv, -⟩
  · rw [(wrdE_wid hk n).1, (wrdE_wid hk n).2]
    by_cases h : btw (-(hf (wid k))) n (hf (wid k) - 1) = true
    · rw [if_pos h, if_pos h]
      have := btw_iff.1 h
      exact .inl ⟨rfl, k, hk, rfl, by omega, by omega, rfl⟩
    · rw [if_neg h, if_neg h]
      exact .inr ⟨rfl, rfl⟩
  · exact .inr (wrdE_no hv)
theorem numE_cases (t : Tx) : (numE t = 0 ∧ numX t = numB t ∧ bitsB t = true ∧ ∃ k, k < 5 ∧ t.length = wid k) ∨ (numE t = 3 ∧ numX t = 0) := by
  unfold numX
  have hE : numE t = if (okB (t.length : Int) && bitsB t) = true then 0 else 3 := rfl
  by_cases h : (okB (t.length : Int) && bitsB t) = true
  · rw [if_pos h] at hE
    rw [Bool.and_eq_true] at h
    refine .inl ⟨hE, by rw [hE]; rfl, h.2, ?_⟩
    rcases okB_cases (t.length : Int) with ⟨-, k, hk, e⟩ | ⟨h1, -⟩
    · exact ⟨k, hk, Int.ofNat.inj e⟩
    · rw [h1] at h; cases h.1
  · rw [if_neg h] at hE
    exact .inr ⟨hE, by rw [hE]; rfl⟩
theorem numE_word {k : Nat} (hk : k < 5) {n : Int} (h0 : -(hf (wid k)) ≤ n) (h1 : n < hf (wid k)) : numE (wordB (wid k) n) = 0 ∧ numX (wordB (wid k) n) = n := by
  have e : numE (wordB (wid k) n) = 0 := by unfold numE; rw [wordB_len, okB_w hk, wordB_bits]; rfl
  refine ⟨e, ?_⟩
  unfold numX
  rw [e, if_pos rfl, num_word (wid_ok k) h0 h1]
theorem wrd_back {t : Tx} {k : Nat} (hk : k < 5) (hl : t.length = wid k) (hb : bitsB t = true) : wrdE (t.length : Int) (numB t) = 0 ∧ wrdX (t.length : Int) (numB t) = t := by
  have h1 : 1 ≤ t.length := by rw [hl]; exact (okW_le (wid_ok k)).1
  have hn := numB_in h1
  have hw := word_num hb h1
  rw [hl] at hn hw ⊢
  have h := wrdE_wid hk (numB t)
  have hbt : btw (-(hf (wid k))) (numB t) (hf (wid k) - 1) = true := btw_iff.2 ⟨hn.1, by omega⟩
  rw [if_pos hbt, if_pos hbt] at h
  exact ⟨h.1, by rw [h.2, hw]⟩
set_option maxRecDepth 100000 in
set_option maxHeartbeats 8000000 in
theorem WaveNumbers_walk (w : World) (v n : Int) (s : ByteArray) (hs : s.size ≤ maxLen) :
    Calls Tryd.prog 5 #[.int .i64 v, .int .i64 n, .string s] w fun e w' => e = .returned (.bool true) ∧ Below w.heap.size w w' := by
  obtain ⟨t, rfl, hts⟩ := str_list s
  clear hs hts
  have HLo := Lib.hid (fun W => Long_any t W)
  have HAw := Lib.hid Awake_any
  have hszt := size_bt t
  by_cases hM : 2000 < (t.length : Int)
  · rw [show decide (2000 < (t.length : Int)) = true from decide_eq_true hM] at HLo
    clear hM
    go_enter Tryd.func5, Tryd.ntmps5
    go_wp2_with (first
      | (go_at_call 14; refine (HLo.out _).mono ?_; rintro e w1 ⟨rfl, rfl⟩)
      | (go_at_call 15; refine (HAw.out _).mono ?_; rintro e w2 ⟨rfl, h2⟩))
    go_ret
    exact ⟨rfl, h2⟩
  · rw [show decide (2000 < (t.length : Int)) = false from decide_eq_false hM] at HLo
    have H1 := Lib.hid (fun W => Word_any v n W)
    have H3 := Lib.hid (fun W => Number_any t W (by omega))
    have hl2000 : (t.length : Int) ≤ 2000 := by omega
    -- behind the first half the rest is alike: what the word of the number and the number of the word are
    rcases wrdE_cases v n with ⟨he, k, hk, rfl, hn0, hn1, hx⟩ | ⟨he, hx⟩
    · rw [he, hx] at H1
      have H2 := Lib.hid (fun W => Number_any (wordB (wid k) n) W (by rw [wordB_len]; have := (okW_le (wid_ok k)).2; omega))
      rw [(numE_word hk hn0 hn1).1, (numE_word hk hn0 hn1).2] at H2
      have hszx := size_bt (wordB (wid k) n)
      have hxl := wordB_len (wid k) n
      rw [hxl] at hszx
      rcases numE_cases t with ⟨hne, hnx, hb, k2, hk2, hlk⟩ | ⟨hne, hnx⟩
      · have HW2 := Lib.hid (fun W => Word_any (t.length : Int) (numB t) W)
        rw [(wrd_back hk2 hlk hb).1, (wrd_back hk2 hlk hb).2] at HW2
        rw [hne, hnx] at H3
        clear hM he hx hn0 hn1 hne hnx hb hlk hk hk2
        generalize wordB (wid k) n = X at *
        generalize wid k = wk at *
        generalize numB t = N at *
        go_enter Tryd.func5, Tryd.ntmps5
        go_wp2_with (first
          | (go_at_call 14; refine (HLo.out _).mono ?_; rintro e w1 ⟨rfl, rfl⟩)
          | (go_at_call 25; have := h4; refine (HW2.out _).mono ?_; rintro e w5 ⟨rfl, h5⟩)
          | (go_at_call 25; refine (H1.out _).mono ?_; rintro e w3 ⟨rfl, h3⟩)
          | (go_at_call 27; have := h6; refine (H3.out _).mono ?_; rintro e w4 ⟨rfl, h4⟩)
          | (go_at_call 27; refine (H2.out _).mono ?_; rintro e w4 ⟨rfl, h6⟩)
          | (go_at_call 15; refine (HAw.out _).mono ?_; rintro e w7 ⟨rfl, h7⟩))
        go_ret
        exact ⟨by simp, (((h3.trs h6).trs h4).trs h5).trs h7⟩
      · rw [hne, hnx] at H3
        clear hM he hx hn0 hn1 hne hnx hk
        generalize wordB (wid k) n = X at *
        generalize wid k = wk at *
        go_enter Tryd.func5, Tryd.ntmps5
        go_wp2_with (first
          | (go_at_call 14; refine (HLo.out _).mono ?_; rintro e w1 ⟨rfl, rfl⟩)
          | (go_at_call 25; refine (H1.out _).mono ?_; rintro e w3 ⟨rfl, h3⟩)
          | (go_at_call 27; have := h6; refine (H3.out _).mono ?_; rintro e w4 ⟨rfl, h4⟩)
          | (go_at_call 27; refine (H2.out _).mono ?_; rintro e w4 ⟨rfl, h6⟩)
          | (go_at_call 15; refine (HAw.out _).mono ?_; rintro e w7 ⟨rfl, h7⟩))
        go_ret
        exact ⟨by simp, ((h3.trs h6).trs h4).trs h7⟩
    · rw [he, hx] at H1
      rcases numE_cases t with ⟨hne, hnx, hb, k2, hk2, hlk⟩ | ⟨hne, hnx⟩
      · have HW2 := Lib.hid (fun W => Word_any (t.length : Int) (numB t) W)
        rw [(wrd_back hk2 hlk hb).1, (wrd_back hk2 hlk hb).2] at HW2
        rw [hne, hnx] at H3
        clear hM he hx hne hnx hb hlk hk2
        generalize numB t = N at *
        go_enter Tryd.func5, Tryd.ntmps5
        go_wp2_with (first
          | (go_at_call 14; refine (HLo.out _).mono ?_; rintro e w1 ⟨rfl, rfl⟩)
          | (go_at_call 25; have := h4; refine (HW2.out _).mono ?_; rintro e w5 ⟨rfl, h5⟩)
          | (go_at_call 25; refine (H1.out _).mono ?_; rintro e w3 ⟨rfl, h3⟩)
          | (go_at_call 27; refine (H3.out _).mono ?_; rintro e w4 ⟨rfl, h4⟩)
          | (go_at_call 15; refine (HAw.out _).mono ?_; rintro e w7 ⟨rfl, h7⟩))
        go_ret
        exact ⟨by simp, ((h3.trs h4).trs h5).trs h7⟩
      · rw [hne, hnx] at H3
        clear hM he hx hne hnx
        go_enter Tryd.func5, Tryd.ntmps5
        go_wp2_with (first
          | (go_at_call 14; refine (HLo.out _).mono ?_; rintro e w1 ⟨rfl, rfl⟩)
          | (go_at_call 25; refine (H1.out _).mono ?_; rintro e w3 ⟨rfl, h3⟩)
          | (go_at_call 27; refine (H3.out _).mono ?_; rintro e w4 ⟨rfl, h4⟩)
          | (go_at_call 15; refine (HAw.out _).mono ?_; rintro e w7 ⟨rfl, h7⟩))
        go_ret
        exact ⟨by simp, (h3.trs h4).trs h7⟩
end Go.Proofs.YteodljaphkpimaaDoor
