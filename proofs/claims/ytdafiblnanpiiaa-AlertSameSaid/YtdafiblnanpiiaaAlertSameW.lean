/- The walk of the law AlertSame. -/
import Derived.Test.YtdafiblnanpiiaaAlMc
import Derived.Test.YtdafiblnanpiiaaAlLawN
import Derived.Test.YtdafiblnanpiiaaAlTu
import Derived.Test.YtdafiblnanpiiaaAlertStretchesW
namespace Go.Proofs.Ytdafiblnanpiiaa
open Go.RowKit
set_option linter.unusedSimpArgs false
set_option linter.unusedVariables false

theorem mac_congr {L L2 : List (Int × Int × Int)} (h : ∀ k : Int, SevP L2 k ↔ SevP L k) : mac L2 = mac L := by
  have e : ∀ k : Int, sevB L2 k = sevB L k := fun k => by
    rw [Bool.eq_iff_iff, sevB_iff, sevB_iff]; exact h k
  unfold mac; rw [e, e, e, e]

theorem alike_any (A : Option Addr) (c : Nat) (L : List (Int × Int × Int)) (A2 : Option Addr) (c2 : Nat) (L2 : List (Int × Int × Int)) (w : World) (hr : RdT w w.heap.size A L) (hr2 : RdT w w.heap.size A2 L2) (hl : L.length ≤ 1000000) (hl2 : L2.length ≤ 1000000)
    (hv : vldT L = true) (hv2 : vldT L2 = true) (hs : slk L2 = slk L) (hm : mac L2 = mac L) :
    Calls Try.prog 54 #[.slice A L.length c, .slice A2 L2.length c2] w fun e w' => e = .returned (.bool true) ∧ Below w.heap.size w w' := by
  have H1 := Lib.hid (Slack_any A c L w hr (by omega))
  have H2 := Lib.hid (fun W (hW : Below w.heap.size w W) => Slack_any A2 c2 L2 W (hr2.on hW) (by omega))
  have H3 := Lib.hid (fun W (hW : Below w.heap.size w W) => Can_any A c L W (hr.on hW) (by omega))
  have H4 := Lib.hid (fun W (hW : Below w.heap.size w W) => Can_any A2 c2 L2 W (hr2.on hW) (by omega))
  have H5 := Lib.hid (fun W (hW : Below w.heap.size w W) => Machines_any A c L W (hr.on hW) (by omega))
  have H6 := Lib.hid (fun W (hW : Below w.heap.size w W) => Machines_any A2 c2 L2 W (hr2.on hW) (by omega))
  have e1 : MachV L = .tuple #[.int .i64 (mac L), .int .i64 (if mac L = 0 then 5 else 0)] := by unfold MachV; rw [hv]; rfl
  have e2 : MachV L2 = .tuple #[.int .i64 (mac L), .int .i64 (if mac L = 0 then 5 else 0)] := by unfold MachV; rw [hv2, hm]; rfl
  rw [SlackV_yes hv] at H1
  rw [SlackV_yes hv2, hs] at H2
  rw [CanV_yes hv] at H3
  rw [CanV_yes hv2, hs] at H4
  rw [e1] at H5
  rw [e2] at H6
  clear e1 e2 hs hm hv hv2 hr hr2
  generalize decide (0 ≤ slk L) = d at *
  generalize slk L = s at *
  generalize (if mac L = 0 then (5 : Int) else 0) = f at *
  generalize ((mac L : Nat) : Int) = m at *
  generalize L.length = n at *
  generalize L2.length = n2 at *
  cases d
  all_goals
    go_enter Try.func54, Try.ntmps54
    go_wp2_with (first
      | (have := w5; go_at_call 29; refine (H6.out _ h5).mono ?_; rintro e w6 ⟨rfl, h6⟩; have h6 := h5.trs h6)
      | (go_at_call 29; refine (H5.out _ h4).mono ?_; rintro e w5 ⟨rfl, h5⟩; have h5 := h4.trs h5)
      | (have := w3; go_at_call 24; refine (H4.out _ h3).mono ?_; rintro e w4 ⟨rfl, h4⟩; have h4 := h3.trs h4)
      | (go_at_call 24; refine (H3.out _ h2).mono ?_; rintro e w3 ⟨rfl, h3⟩; have h3 := h2.trs h3)
      | (have := w1; go_at_call 18; refine (H2.out _ h1).mono ?_; rintro e w2 ⟨rfl, h2⟩; have h2 := h1.trs h2)
      | (go_at_call 18; refine H1.out.mono ?_; rintro e w1 ⟨rfl, h1⟩))
    go_ret
    exact ⟨ret_bool (by first | rfl | simp), h6⟩

theorem Turned_valid (A : Option Addr) (c : Nat) (L : List (Int × Int × Int)) (w : World) (hr : RdT w w.heap.size A L) (hl : L.length ≤ 1000000) (hv : vldT L = true) :
    Calls Try.prog 44 #[.slice A L.length c] w fun e w' => ∃ A2 c2, e = .returned (.tuple #[.slice A2 (trnT L).length c2, .int .i64 0]) ∧ Below w.heap.size w w' ∧ RdT w' w'.heap.size A2 (trnT L) := by
  have h := Turned_any A c L w hr (by omega)
  unfold OutT TrnK at h
  rw [hv, if_pos rfl, SlackE_yes hv] at h
  exact h.mono fun e w' ⟨h1, A2, c2, h2, h3⟩ => ⟨A2, c2, h2, h1, h3⟩
theorem Moved_ok (A : Option Addr) (c : Nat) (L : List (Int × Int × Int)) (k : Int) (w : World) (hr : RdT w w.heap.size A L) (hl : L.length ≤ 1000000) (hE : MovE L k = 0) :
    Calls Try.prog 41 #[.slice A L.length c, .int .i64 k] w fun e w' => ∃ A2 c2, e = .returned (.tuple #[.slice A2 (movT L k).length c2, .int .i64 0]) ∧ Below w.heap.size w w' ∧ RdT w' w'.heap.size A2 (movT L k) := by
  have h := Moved_any A c L k w hr (by omega)
  unfold OutT MovK at h
  rw [hE, if_pos rfl] at h
  exact h.mono fun e w' ⟨h1, A2, c2, h2, h3⟩ => ⟨A2, c2, h2, h1, h3⟩
theorem Moved_no (A : Option Addr) (c : Nat) (L : List (Int × Int × Int)) (k : Int) (w : World) (hr : RdT w w.heap.size A L) (hl : L.length ≤ 1000000) (hE : MovE L k = 2) :
    Calls Try.prog 41 #[.slice A L.length c, .int .i64 k] w fun e w' => ∃ A2 c2, e = .returned (.tuple #[.slice A2 0 c2, .int .i64 2]) ∧ Below w.heap.size w w' := by
  have h := Moved_any A c L k w hr (by omega)
  unfold OutT MovK at h
  rw [hE, if_neg (by decide)] at h
  exact h.mono fun e w' ⟨h1, A2, c2, h2, h3⟩ => ⟨A2, c2, h2, h1⟩
theorem MovE_cases {L : List (Int × Int × Int)} {k : Int} (hv : vldT L = true) : MovE L k = 2 ∨ (MovE L k = 0 ∧ -100 ≤ k ∧ k ≤ 100 ∧ vldT (movT L k) = true) := by
  rw [MovE_lift hv]
  cases hb : btw (-100) k 100
  · exact .inl rfl
  · have := btw_iff.1 hb
    cases hm : vldT (movT L k)
    · exact .inl rfl
    · exact .inr ⟨rfl, this.1, this.2, rfl⟩
theorem MovE_back {L : List (Int × Int × Int)} {k : Int} (hv : vldT L = true) (h1 : -100 ≤ k) (h2 : k ≤ 100) (hm : vldT (movT L k) = true) : MovE (movT L k) (-k) = 0 := by
  rw [MovE_lift hm, mov_mov, hv, btw_iff.2 (by omega)]; rfl

set_option maxRecDepth 100000 in
set_option maxHeartbeats 8000000 in
theorem AlertSame_walk (w : World) (A : Option Addr) (c : Nat) (L : List (Int × Int × Int)) (hr : RdT w w.heap.size A L) (_hm : L.length ≤ maxLen) (by_ : Int) :
    Calls Try.prog 13 #[.slice A L.length c, .int .i64 by_] w fun e w' => e = .returned (.bool true) ∧ Below w.heap.size w w' := by
  have HR := Lib.hid hr; clear hr
  by_cases hl : L.length ≤ 40
  · have hd : decide ((40 : Int) < L.length) = false := by simp; omega
    have hl2 : L.length ≤ 1000000 := by omega
    have HV := Lib.hid (refValid_any A c L _ HR.out (by omega))
    cases hv : vldT L <;> rw [hv] at HV
    · generalize L.length = n at *
      go_enter Try.func13, Try.ntmps13
      go_wp2_with (first
        | (go_at_call 14; refine (Long_any _ _ _ _).mono ?_; rintro e w' ⟨rfl, rfl⟩)
        | (go_at_call 22; refine HV.out.mono ?_; rintro e w1 ⟨rfl, h1⟩)
        | (go_at_call 15; refine (Sane_any _).mono ?_; rintro e w10 ⟨rfl, h10⟩))
      go_ret
      exact ⟨rfl, h1.trs h10⟩
    · have hok := okT_of hv
      have htok := okT_trn hok
      have htv := vldT_of htok
      have htl : (trnT L).length = L.length := by simp [trnT]
      have H1 := Lib.hid (fun W (hW : Below w.heap.size w W) => Turned_valid A c L W (HR.out.on hW) hl2 hv)
      have H2 := Lib.hid (fun A2 c2 W (h : RdT W W.heap.size A2 (trnT L)) => Turned_valid A2 c2 (trnT L) W h (by omega) htv)
      have H3 := Lib.hid (fun A2 c2 W (hW : Below w.heap.size w W) (h : RdT W W.heap.size A2 L) => SameTasks_any A2 c2 A c L W h (HR.out.on hW) hl2)
      have H4 := Lib.hid (fun A2 c2 W (hW : Below w.heap.size w W) (h : RdT W W.heap.size A2 (trnT L)) => alike_any A c L A2 c2 (trnT L) W (HR.out.on hW) h hl2 (by omega) hv htv (slk_trn L) (mac_congr fun k => sev_trn hok))
      rw [trn_trn, htl] at H2
      rw [htl] at H1 H4
      rcases MovE_cases (k := by_) hv with hE | ⟨hE, b1, b2, hmv⟩
      · have H5 := Lib.hid (fun W (hW : Below w.heap.size w W) => Moved_no A c L by_ W (HR.out.on hW) hl2 hE)
        clear hok htok htv hE hv HR
        generalize trnT L = tl at *
        generalize L.length = n at *
        go_enter Try.func13, Try.ntmps13
        go_wp2_with (first
          | (go_at_call 14; refine (Long_any _ _ _ _).mono ?_; rintro e w' ⟨rfl, rfl⟩)
          | (go_at_call 22; refine HV.out.mono ?_; rintro e w1 ⟨rfl, h1⟩)
          | (have := w2; go_at_call 44; refine (H2.out _ _ _ r2).mono ?_; rintro e w3 ⟨A3, c3, rfl, h3, r3⟩; have r2 := r2.on h3; have h3 := h2.trs h3)
          | (go_at_call 44; refine (H1.out _ h1).mono ?_; rintro e w2 ⟨A2, c2, rfl, h2, r2⟩; have h2 := h1.trs h2)
          | (go_at_call 43; refine (H3.out _ _ _ h3 r3).mono ?_; rintro e w4 ⟨rfl, h4⟩; have r2 := r2.on h4; have h4 := h3.trs h4)
          | (go_at_call 54; refine (H4.out _ _ _ h4 r2).mono ?_; rintro e w5 ⟨rfl, h5⟩; have h5 := h4.trs h5)
          | (go_at_call 41; refine (H5.out _ h5).mono ?_; rintro e w6 ⟨A6, c6, rfl, h6⟩; have h6 := h5.trs h6)
          | (go_at_call 15; refine (Sane_any _).mono ?_; rintro e w10 ⟨rfl, h10⟩))
        go_ret
        exact ⟨ret_bool (by first | rfl | simp), h6.trs h10⟩
      · have hml : (movT L by_).length = L.length := by simp [movT]
        have H5 := Lib.hid (fun W (hW : Below w.heap.size w W) => Moved_ok A c L by_ W (HR.out.on hW) hl2 hE)
        have H6 := Lib.hid (fun A2 c2 W (h : RdT W W.heap.size A2 (movT L by_)) => Moved_ok A2 c2 (movT L by_) (-by_) W h (by omega) (MovE_back hv b1 b2 hmv))
        have H7 := Lib.hid (fun A2 c2 W (hW : Below w.heap.size w W) (h : RdT W W.heap.size A2 (movT L by_)) => alike_any A c L A2 c2 (movT L by_) W (HR.out.on hW) h hl2 (by omega) hv hmv (slk_mov hok (okT_of hmv)) (mac_congr fun k => sev_mov hok (okT_of hmv)))
        rw [mov_mov, hml] at H6
        rw [hml] at H5 H7
        have v1 : wrap64 (-by_) = -by_ := IntWalk.wrap64_in _ (by omega)
        have v2 : IntKind.i64.wrap (-by_) = -by_ := IntWalk.i64_in _ (by omega)
        clear hok htok htv hE hv hmv HR
        generalize trnT L = tl at *
        generalize movT L by_ = ml at *
        generalize L.length = n at *
        go_enter Try.func13, Try.ntmps13
        go_wp2_with (first
          | (go_at_call 14; refine (Long_any _ _ _ _).mono ?_; rintro e w' ⟨rfl, rfl⟩)
          | (go_at_call 22; refine HV.out.mono ?_; rintro e w1 ⟨rfl, h1⟩)
          | (have := w2; go_at_call 44; refine (H2.out _ _ _ r2).mono ?_; rintro e w3 ⟨A3, c3, rfl, h3, r3⟩; have r2 := r2.on h3; have h3 := h2.trs h3)
          | (go_at_call 44; refine (H1.out _ h1).mono ?_; rintro e w2 ⟨A2, c2, rfl, h2, r2⟩; have h2 := h1.trs h2)
          | (have := w7; go_at_call 43; refine (H3.out _ _ _ h7 r7).mono ?_; rintro e w8 ⟨rfl, h8⟩; have r6 := r6.on h8; have h8 := h7.trs h8)
          | (go_at_call 43; refine (H3.out _ _ _ h3 r3).mono ?_; rintro e w4 ⟨rfl, h4⟩; have r2 := r2.on h4; have h4 := h3.trs h4)
          | (have := w8; go_at_call 54; refine (H7.out _ _ _ h8 r6).mono ?_; rintro e w9 ⟨rfl, h9⟩; have h9 := h8.trs h9)
          | (go_at_call 54; refine (H4.out _ _ _ h4 r2).mono ?_; rintro e w5 ⟨rfl, h5⟩; have h5 := h4.trs h5)
          | (have := w6; go_at_call 41; refine (H6.out _ _ _ r6).mono ?_; rintro e w7 ⟨A7, c7, rfl, h7, r7⟩; have r6 := r6.on h7; have h7 := h6.trs h7)
          | (go_at_call 41; refine (H5.out _ h5).mono ?_; rintro e w6 ⟨A6, c6, rfl, h6, r6⟩; have h6 := h5.trs h6)
          | (go_at_call 15; refine (Sane_any _).mono ?_; rintro e w10 ⟨rfl, h10⟩))
        go_ret
        exact ⟨ret_bool (by first | rfl | simp), h9.trs h10⟩
  · have hd : decide ((40 : Int) < L.length) = true := by simp; omega
    go_enter Try.func13, Try.ntmps13
    go_wp2_with (first
      | (go_at_call 14; refine (Long_any _ _ _ _).mono ?_; rintro e w' ⟨rfl, rfl⟩)
      | (go_at_call 15; refine (Sane_any _).mono ?_; rintro e w10 ⟨rfl, h10⟩))
    go_ret
    exact ⟨rfl, h10⟩
end Go.Proofs.Ytdafiblnanpiiaa
