/- Walks over package sky: what is told of a region; which lists are sets; the set of cells. -/
import Derived.Test.YtgbpmleipdecgaaSkyCg
namespace Go.Proofs.Ytgbpmleipdecgaa
open Go.RowKit
set_option linter.unusedSimpArgs false
set_option linter.unusedVariables false

/-- a list of cells comes back, and an error -/
def LstQ (l : List (Int × Int)) (er : Int) (w : World) (e : Ending) (w' : World) : Prop :=
  Below w.heap.size w w' ∧ ∃ A c, e = .returned (.tuple #[.slice A l.length c, .int .i64 er]) ∧ RdP w' w'.heap.size A l
def toldE (S : Px) : Int := if 400 < (cellsP S).length then 4 else 0
def toldL (S : Px) : List (Int × Int) := if 400 < (cellsP S).length then [] else cellsP S
theorem LstQ.no_ {w w' : World} {er : Int} (h : Below w.heap.size w w') : LstQ [] er w (.returned (.tuple #[.slice none 0 0, .int .i64 er])) w' := ⟨h, none, 0, rfl, .inl rfl⟩
set_option maxRecDepth 100000 in
set_option maxHeartbeats 2000000 in
theorem told_any (S : Px) (w : World) : Calls Try.prog 43 #[rgV S] w (LstQ (toldL S) (toldE S) w) := by
  have HC := Lib.hid (fun W => cells_any S W)
  have hx := BoxR.new w S
  have hb := below_alloc w (.cells (rgA S) 81)
  have HX := Lib.hid (And.intro hx hb)
  have HSZ := Lib.hid rgA_size
  have HN : Hid (400 < (cellsP S).length → toldL S = [] ∧ toldE S = 4) := Lib.hid (fun h => ⟨if_pos h, if_pos h⟩)
  have HY : Hid (¬ 400 < (cellsP S).length → toldL S = cellsP S ∧ toldE S = 0) := Lib.hid (fun h => ⟨if_neg h, if_neg h⟩)
  have hle := cells_len S
  clear hx hb
  unfold rgV CelsQ at *
  generalize toldL S = TL at *
  generalize toldE S = TE at *
  generalize cellsP S = CP at *
  generalize hn : CP.length = n at *
  have HNN := Lib.hid hn
  clear hn
  go_enter Try.func43, Try.ntmps43
  go_upto_region 1 with (fail)
  generalize hW0 : w.alloc (.cells (rgA S) 81) = W0 at *
  clear hW0
  by_cases h4 : 400 < n
  · have h4I : decide ((400 : Int) < (n : Int)) = true := by rw [decide_eq_true_eq]; omega
    obtain ⟨rfl, rfl⟩ := HN.out h4
    go_wp2_with (first
      | (refine wpList_load_row rfl 81 (.tmp 1) rfl w.heap.size rfl 81 _ (0, 0) _ HX.out.1 Try.underlying81 rfl (by rw [infoReg, HSZ.out]) ?_)
      | (go_at_call 52; refine (HC.out _).mono ?_; rintro e w1 ⟨h1, A, c, rfl, hr⟩))
    go_ret2
    exact LstQ.no_ (HX.out.2.trs h1)
  · have h4I : decide ((400 : Int) < (n : Int)) = false := by rw [decide_eq_false_iff_not]; omega
    obtain ⟨rfl, rfl⟩ := HY.out h4
    go_wp2_with (first
      | (refine wpList_load_row rfl 81 (.tmp 1) rfl w.heap.size rfl 81 _ (0, 0) _ HX.out.1 Try.underlying81 rfl (by rw [infoReg, HSZ.out]) ?_)
      | (go_at_call 52; refine (HC.out _).mono ?_; rintro e w1 ⟨h1, A, c, rfl, hr⟩))
    go_ret2
    exact ⟨HX.out.2.trs h1, A, c, by rw [HNN.out]; first | done | rfl, hr⟩

def badB (l : List (Int × Int)) : Bool := anyF (fun k => !(okP (pa l k) (pb l k))) l.length
theorem badB_no {l : List (Int × Int)} (h : badB l = false) : okL l := fun k hk => by
  have := anyF_no.1 h k hk
  simpa using this
/-- the list is a set -/
def vldC (l : List (Int × Int)) : Bool := decide (l.length ≤ 400) && !(badB l) && decide (cellsP (uniP l) = l)
theorem vldC_iff {l : List (Int × Int)} : vldC l = true ↔ l.length ≤ 400 ∧ badB l = false ∧ cellsP (uniP l) = l := by
  unfold vldC
  rw [Bool.and_eq_true, Bool.and_eq_true, decide_eq_true_eq, decide_eq_true_eq, Bool.not_eq_true', and_assoc]
set_option maxRecDepth 100000 in
set_option maxHeartbeats 2000000 in
theorem Valid_any (A : Option Addr) (c : Nat) (l : List (Int × Int)) (w : World) (hr : RdP w w.heap.size A l) (hl : l.length ≤ 1000000) :
    Calls Try.prog 53 #[.slice A l.length c] w fun e w' => e = .returned (.bool (vldC l)) ∧ Below w.heap.size w w' := by
  have H := ContainsFuncC_any 70 #[] A c l (fun k p => !(okP k p)) w hr (by omega) (enters_of Try.func70 (by kernel_rfl) rfl) (fun W x y _ => valid1_any x y W)
  have HH := Lib.hid H
  have hv : vldC l = (decide (l.length ≤ 400) && !(badB l) && decide (cellsP (uniP l) = l)) := rfl
  rw [show anyF (fun k => !(okP (pa l k) (pb l k))) l.length = badB l from rfl] at HH
  have HU := Lib.hid (fun (h : badB l = false) W (hW : Below w.heap.size w W) => union_any A c l W (hr.on hW) hl (badB_no h))
  have HC := Lib.hid (fun W => cells_any (uniP l) W)
  have HE := Lib.hid (fun A1 c1 W (h1 : RdP W W.heap.size A1 (cellsP (uniP l))) (hW : Below w.heap.size w W) => Equal_any A1 A c1 c (cellsP (uniP l)) l W h1 (hr.on hW) (by have := cells_len (uniP l); omega) (by omega))
  clear H hr
  unfold CelsQ at HC
  generalize decide (cellsP (uniP l) = l) = eq at *
  generalize cellsP (uniP l) = CP at *
  generalize vldC l = r at *
  generalize hlg : uniP l = U at *
  clear hlg
  cases hb : badB l
  · have HUU := Lib.hid (HU.out hb)
    rw [hb] at HH hv
    clear hb HU
    generalize CP.length = n2 at *
    generalize l.length = n at *
    by_cases h4 : n ≤ 400
    · have h4I : decide ((n : Int) ≤ 400) = true := by rw [decide_eq_true_eq]; omega
      rw [decide_eq_true h4] at hv
      have HV := Lib.hid hv
      clear hv
      go_enter Try.func53, Try.ntmps53
      go_wp2_with (first
        | (go_at_call 69; refine HH.out.mono ?_; rintro e w1 ⟨rfl, h1⟩)
        | (go_at_call 66; refine (HUU.out _ h1).mono ?_; rintro e w2 ⟨rfl, h2⟩; have h2 := h1.trs h2)
        | (go_at_call 52; refine (HC.out _).mono ?_; rintro e w3 ⟨h3, A3, c3, rfl, hr3⟩; have h3 := h2.trs h3)
        | (go_at_call 71; refine (HE.out _ _ _ hr3 h3).mono ?_; rintro e w4 ⟨rfl, h4'⟩; have h4 := h3.trs h4'))
      go_ret
      exact ⟨ret_bool (by rw [HV.out]; first | done | rfl | simp), h4⟩
    · have h4I : decide ((n : Int) ≤ 400) = false := by rw [decide_eq_false_iff_not]; omega
      rw [decide_eq_false h4] at hv
      have HV := Lib.hid hv
      clear hv
      go_enter Try.func53, Try.ntmps53
      go_wp2
      go_ret
      exact ⟨ret_bool (by rw [HV.out]; first | done | rfl | simp), Below.refl _ _⟩
  · rw [hb] at HH hv
    clear hb HU
    generalize l.length = n at *
    rw [Bool.not_true, Bool.and_false, Bool.false_and] at hv
    have HV := Lib.hid hv
    clear hv
    by_cases h4 : n ≤ 400
    · have h4I : decide ((n : Int) ≤ 400) = true := by rw [decide_eq_true_eq]; omega
      go_enter Try.func53, Try.ntmps53
      go_wp2_with (go_at_call 69; refine HH.out.mono ?_; rintro e w1 ⟨rfl, h1⟩)
      go_ret
      exact ⟨ret_bool (by rw [HV.out]; first | done | rfl | simp), h1⟩
    · have h4I : decide ((n : Int) ≤ 400) = false := by rw [decide_eq_false_iff_not]; omega
      go_enter Try.func53, Try.ntmps53
      go_wp2
      go_ret
      exact ⟨ret_bool (by rw [HV.out]; first | done | rfl | simp), Below.refl _ _⟩
end Go.Proofs.Ytgbpmleipdecgaa
