/- The walk of TopWave. -/
import Derived.Test.YtkjiancdhaocaaaDoorTopWa
import Derived.Test.YtkjiancdhaocaaaDoorTopWb
import Derived.Test.YtkjiancdhaocaaaDoorTopWc
import Derived.Test.YtkjiancdhaocaaaDoorTopWd
import Derived.Test.YtkjiancdhaocaaaDoorTopWe
import Derived.Test.YtkjiancdhaocaaaDoorTopWf
namespace Go.Proofs.YtkjiancdhaocaaaDoor
open Go.RowKit Go.Shelf
set_option linter.unusedSimpArgs false
set_option linter.unusedVariables false
attribute [local go_sem] Oper.semAt_some

theorem text_part2 {s : List Int} {t : Tx} (h : vldW s = true) : isV s t = true ∨ (isV s t = false ∧ isE s t = 0) ∨ (isV s t = false ∧ isE s t = 31) := by
  have hE : isE s t = if vbB t = true then 0 else 31 := by unfold isE; rw [if_pos h]
  cases hi : isV s t
  · by_cases hv : vbB t = true
    · rw [if_pos hv] at hE; exact .inr (.inl ⟨rfl, hE⟩)
    · rw [if_neg hv] at hE; exact .inr (.inr ⟨rfl, hE⟩)
  · exact .inl rfl
set_option maxRecDepth 100000 in
set_option maxHeartbeats 8000000 in
theorem TopWave_walk (w : World) (A : Option Addr) (c : Nat) (l : List Int) (hr : RdI w w.heap.size A l ∧ ∀ x ∈ l, (Lit.int .i64 x).wf = true) (hl : l.length ≤ maxLen) (A2 : Option Addr) (c2 : Nat) (l2 : List Int) (hr2 : RdI w w.heap.size A2 l2 ∧ ∀ x ∈ l2, (Lit.int .i64 x).wf = true) (hl2 : l2.length ≤ maxLen) (s : ByteArray) (hs : s.size ≤ maxLen) :
    Calls Tryd.prog 3 #[.slice A l.length c, .slice A2 l2.length c2, .string s] w fun e w' => e = .returned (.bool true) ∧ Below w.heap.size w w' := by
  obtain ⟨t, rfl, hts⟩ := str_list s
  clear hs hts
  replace hr := hr.1
  replace hr2 := hr2.1
  have HMa := Lib.hid (fun W => Many_any A c l.length W)
  have HMb := Lib.hid (fun W => Many_any A2 c2 l2.length W)
  have HLo := Lib.hid (fun W => Long_any t W)
  have HAw := Lib.hid Awake_any
  by_cases hM : 200 < (l.length : Int)
  · rw [show decide (200 < (l.length : Int)) = true from decide_eq_true hM] at HMa
    clear hr hr2 hM
    go_enter Tryd.func3, Tryd.ntmps3
    go_wp2_with (first
      | (go_at_call 4; refine (HMa.out _).mono ?_; rintro e w1 ⟨rfl, rfl⟩)
      | (go_at_call 7; refine (HAw.out _).mono ?_; rintro e w2 ⟨rfl, h2⟩))
    go_ret
    exact ⟨rfl, h2⟩
  · by_cases hM2 : 200 < (l2.length : Int)
    · rw [show decide (200 < (l.length : Int)) = false from decide_eq_false hM] at HMa
      rw [show decide (200 < (l2.length : Int)) = true from decide_eq_true hM2] at HMb
      clear hr hr2 hM hM2
      go_enter Tryd.func3, Tryd.ntmps3
      go_wp2_with (first
        | (go_at_call 4; have := w1; refine (HMb.out _).mono ?_; rintro e w2 ⟨rfl, rfl⟩)
        | (go_at_call 4; refine (HMa.out _).mono ?_; rintro e w1 ⟨rfl, hw1⟩; rw [hw1]; clear hw1)
        | (go_at_call 7; refine (HAw.out _).mono ?_; rintro e w2 ⟨rfl, h2⟩))
      go_ret
      exact ⟨rfl, h2⟩
    · by_cases hM3 : 2000 < (t.length : Int)
      · rw [show decide (200 < (l.length : Int)) = false from decide_eq_false hM] at HMa
        rw [show decide (200 < (l2.length : Int)) = false from decide_eq_false hM2] at HMb
        rw [show decide (2000 < (t.length : Int)) = true from decide_eq_true hM3] at HLo
        clear hr hr2 hM hM2 hM3
        go_enter Tryd.func3, Tryd.ntmps3
        go_wp2_with (first
          | (go_at_call 4; have := w1; refine (HMb.out _).mono ?_; rintro e w2 ⟨rfl, rfl⟩)
          | (go_at_call 4; refine (HMa.out _).mono ?_; rintro e w1 ⟨rfl, hw1⟩; rw [hw1]; clear hw1)
          | (go_at_call 5; refine (HLo.out _).mono ?_; rintro e w1 ⟨rfl, rfl⟩)
          | (go_at_call 7; refine (HAw.out _).mono ?_; rintro e w2 ⟨rfl, h2⟩))
        go_ret
        exact ⟨rfl, h2⟩
      · cases hv : vldW l
        · rw [show decide (200 < (l.length : Int)) = false from decide_eq_false hM] at HMa
          rw [show decide (200 < (l2.length : Int)) = false from decide_eq_false hM2] at HMb
          rw [show decide (2000 < (t.length : Int)) = false from decide_eq_false hM3] at HLo
          have HV := Lib.hid (refValid_any A c l w hr (by omega))
          rw [hv] at HV
          clear hr hr2 hM hM2 hM3
          generalize l.length = n at *
          generalize l2.length = n2 at *
          go_enter Tryd.func3, Tryd.ntmps3
          go_wp2_with (first
            | (go_at_call 4; have := w1; refine (HMb.out _).mono ?_; rintro e w2 ⟨rfl, hw2⟩; rw [hw2]; clear hw2)
            | (go_at_call 4; refine (HMa.out _).mono ?_; rintro e w1 ⟨rfl, hw1⟩; rw [hw1]; clear hw1)
            | (go_at_call 5; refine (HLo.out _).mono ?_; rintro e w3 ⟨rfl, hw3⟩; rw [hw3]; clear hw3)
            | (go_at_call 6; refine HV.out.mono ?_; rintro e w4 ⟨rfl, h4⟩)
            | (go_at_call 7; refine (HAw.out _).mono ?_; rintro e w5 ⟨rfl, h5⟩))
          go_ret
          exact ⟨rfl, h4.trs h5⟩
        · by_cases hP : planE l l2 = 0
          · rcases text_part2 (t := t) hv with hT | hT | hT
            · exact TopWave_a w A c l hr hM A2 c2 l2 hr2 hM2 t hM3 hv hP hT
            · exact TopWave_b w A c l hr hM A2 c2 l2 hr2 hM2 t hM3 hv hP hT
            · exact TopWave_c w A c l hr hM A2 c2 l2 hr2 hM2 t hM3 hv hP hT
          · rcases text_part2 (t := t) hv with hT | hT | hT
            · exact TopWave_d w A c l hr hM A2 c2 l2 hr2 hM2 t hM3 hv hP hT
            · exact TopWave_e w A c l hr hM A2 c2 l2 hr2 hM2 t hM3 hv hP hT
            · exact TopWave_f w A c l hr hM A2 c2 l2 hr2 hM2 t hM3 hv hP hT
end Go.Proofs.YtkjiancdhaocaaaDoor
