/- The walk of WaveWords. -/
import Derived.Test.YteodljaphkpimaaDoorWvWb
import Derived.Test.YteodljaphkpimaaDoorWvH
namespace Go.Proofs.YteodljaphkpimaaDoor
open Go.RowKit Go.Shelf
set_option linter.unusedSimpArgs false
set_option linter.unusedVariables false
attribute [local go_sem] Oper.semAt_some

set_option maxRecDepth 100000 in
set_option maxHeartbeats 4000000 in
theorem WaveWords_walk (w : World) (v n : Int) (s : ByteArray) (hs : s.size ≤ maxLen) :
    Calls Tryd.prog 4 #[.int .i64 v, .int .i64 n, .string s] w fun e w' => e = .returned (.bool true) ∧ Below w.heap.size w w' := by
  obtain ⟨t, rfl, hts⟩ := str_list s
  clear hs hts
  have HLo := Lib.hid (fun W => Long_any t W)
  have HAw := Lib.hid Awake_any
  by_cases hM : 2000 < (t.length : Int)
  · rw [show decide (2000 < (t.length : Int)) = true from decide_eq_true hM] at HLo
    clear hM
    go_enter Tryd.func4, Tryd.ntmps4
    go_wp2_with (first
      | (go_at_call 14; refine (HLo.out _).mono ?_; rintro e w1 ⟨rfl, rfl⟩)
      | (go_at_call 15; refine (HAw.out _).mono ?_; rintro e w2 ⟨rfl, h2⟩))
    go_ret
    exact ⟨rfl, h2⟩
  · rw [show decide (2000 < (t.length : Int)) = false from decide_eq_false hM] at HLo
    have H1 := Lib.hid (fun W => Word_any v n W)
    have H2 := Lib.hid (fun W => refWordE_any v n W)
    have H3 := Lib.hid (fun W => Number_any t W (by omega))
    have H4 := Lib.hid (fun W => refNumberE_any t W (by omega))
    clear hM
    generalize wrdX v n = X at *
    generalize wrdE v n = E at *
    generalize numX t = Y at *
    generalize numE t = F at *
    go_enter Tryd.func4, Tryd.ntmps4
    go_wp2_with (first
      | (go_at_call 14; refine (HLo.out _).mono ?_; rintro e w1 ⟨rfl, rfl⟩)
      | (go_at_call 25; refine (H1.out _).mono ?_; rintro e w3 ⟨rfl, h1⟩)
      | (go_at_call 26; refine (H2.out _).mono ?_; rintro e w4 ⟨rfl, rfl⟩)
      | (go_at_call 27; refine (H3.out _).mono ?_; rintro e w5 ⟨rfl, h3⟩)
      | (go_at_call 28; refine (H4.out _).mono ?_; rintro e w6 ⟨rfl, rfl⟩)
      | (go_at_call 15; refine (HAw.out _).mono ?_; rintro e w7 ⟨rfl, h5⟩))
    go_ret
    exact ⟨by simp, (h1.trs h3).trs h5⟩
end Go.Proofs.YteodljaphkpimaaDoor
