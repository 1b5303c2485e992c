/- Walks over the reference of alert: Urgent, Can, Undone; lists that are the same. -/
import Derived.Test.YtdafiblnanpiiaaAlLon
namespace Go.Proofs.Ytdafiblnanpiiaa
open Go.RowKit
set_option linter.unusedSimpArgs false
set_option linter.unusedVariables false

theorem refUrgent_any (A : Option Addr) (c : Nat) (L : List (Int × Int × Int)) (w : World) (hr : RdT w w.heap.size A L) (hl : L.length ≤ 1125899906842624) :
    Calls Try.prog 34 #[.slice A L.length c] w (OutI (SlackE L) (if vldT L then urg L else []) w) := by
  have HV := Lib.hid (refValid_any A c L w hr hl)
  have HU := Lib.hid (fun (hv : vldT L = true) W (hW : Below w.heap.size w W) => refurgent_any A c L W (hr.on hW) (okT_of hv))
  have H1 : Hid (vldT L = false → ∀ W, Below w.heap.size w W → OutI (SlackE L) (if vldT L then urg L else []) w (.returned (.tuple #[.slice none 0 0, .int .i64 80])) W) := Lib.hid (fun h W hW => ⟨hW, none, 0, by rw [h, SlackE_no h]; rfl, by rw [h]; exact .inl rfl⟩)
  have H2 : Hid (vldT L = true → ∀ W A2 c2, Below w.heap.size w W → RdI W W.heap.size A2 (urg L) → OutI (SlackE L) (if vldT L then urg L else []) w (.returned (.tuple #[.slice A2 100 c2, .int .i64 0])) W) := Lib.hid (fun h W A2 c2 hW h2 => ⟨hW, A2, c2, by rw [h, SlackE_yes h, if_pos rfl, urg_len], by rw [h]; exact h2⟩)
  clear hr
  generalize OutI (SlackE L) (if vldT L then urg L else []) w = Q at *
  cases hv : vldT L <;> rw [hv] at HV
  · have HV2 := Lib.hid hv; clear hv HU H2
    generalize L.length = n at *
    go_enter Try.func34, Try.ntmps34
    go_wp2_with (go_at_call 22; refine HV.out.mono ?_; rintro e w1 ⟨rfl, h1⟩)
    exact H1.out HV2.out _ h1
  · have HV2 := Lib.hid hv
    have HU2 := Lib.hid (HU.out hv); clear hv HU H1
    generalize L.length = n at *
    go_enter Try.func34, Try.ntmps34
    go_wp2_with (first
      | (go_at_call 22; refine HV.out.mono ?_; rintro e w1 ⟨rfl, h1⟩)
      | (go_at_call 77; refine (HU2.out _ h1).mono ?_; rintro e w2 ⟨A2, c2, rfl, h2, hr2⟩; have HR2 := Lib.hid hr2; clear hr2))
    exact H2.out HV2.out _ _ _ (h1.trs h2) HR2.out

theorem refCan_any (A : Option Addr) (c : Nat) (L : List (Int × Int × Int)) (w : World) (hr : RdT w w.heap.size A L) (hl : L.length ≤ 1125899906842624) :
    Calls Try.prog 35 #[.slice A L.length c] w fun e w' => e = .returned (CanV L) ∧ Below w.heap.size w w' := by
  have HV := Lib.hid (refValid_any A c L w hr hl)
  have HS := Lib.hid (fun (hv : vldT L = true) W (hW : Below w.heap.size w W) => refslack_any A c L W (hr.on hW) (okT_of hv))
  have H1 := Lib.hid (@CanV_no L)
  have H2 := Lib.hid (@CanV_yes L)
  clear hr
  generalize CanV L = V at *
  generalize slk L = s at *
  generalize L.length = n at *
  cases hv : vldT L <;> rw [hv] at HV
  · have HV2 := Lib.hid hv; clear hv HS
    go_enter Try.func35, Try.ntmps35
    go_wp2_with (go_at_call 22; refine HV.out.mono ?_; rintro e w' ⟨rfl, hB⟩)
    go_ret2
    exact ⟨by rw [H1.out HV2.out]; first | done | rfl, hB⟩
  · have HV2 := Lib.hid hv
    have HS2 := Lib.hid (HS.out hv); clear hv HS
    go_enter Try.func35, Try.ntmps35
    go_wp2_with (first | (go_at_call 22; refine HV.out.mono ?_; rintro e w' ⟨rfl, hB⟩) | (go_at_call 62; refine (HS2.out _ hB).mono ?_; rintro e w2 ⟨rfl, rfl⟩))
    go_ret2
    exact ⟨by rw [H2.out HV2.out]; first | done | rfl, hB⟩

theorem SameInts_any (A : Option Addr) (c : Nat) (A2 : Option Addr) (c2 : Nat) (l : List Int) (w : World) (hr : RdI w w.heap.size A l) (hr2 : RdI w w.heap.size A2 l) (hl : l.length ≤ 1000000) :
    Calls Try.prog 36 #[.slice A l.length c, .slice A2 l.length c2] w fun e w' => e = .returned (.bool true) ∧ Below w.heap.size w w' := by
  have HR := Lib.hid hr
  have HR2 := Lib.hid hr2
  clear hr hr2
  generalize hn : l.length = n at *
  have HN := Lib.hid hn; clear hn
  go_enter Try.func36, Try.ntmps36
  go_wp2
  go_loopg [5] n (fun k t wr => ∃ i : Nat, t = .int .i64 i ∧ i ≤ n ∧ n - i ≤ k ∧ Below w.heap.size w wr)
  case atStart => exact ⟨0, rfl, by omega, by omega, Below.refl _ _⟩
  case round =>
    obtain ⟨i, rfl, hi, hk, hB⟩ := hrel
    by_cases hlt : i < n
    · obtain ⟨b1, o1, rfl, hb1, d1⟩ := HR.out.at_ (k := i) (by rw [HN.out]; exact hlt)
      obtain ⟨b2, o2, rfl, hb2, d2⟩ := HR2.out.at_ (k := i) (by rw [HN.out]; exact hlt)
      rw [← hB.cell hb1] at d1
      rw [← hB.cell hb2] at d2
      generalize ix l i = x at *
      have HB := Lib.hid hB
      clear hB
      go_wp2
      go_quiet (fail)
      go_wp2
      go_roundg (n - (i + 1))
      case measure => omega
      case rel => exact ⟨i + 1, by go_num, by omega, by omega, HB.out.drewsN _⟩
    · obtain rfl : n = i := by omega
      go_wp2
      go_ret
      exact ⟨rfl, hB⟩

set_option maxRecDepth 100000 in
set_option maxHeartbeats 8000000 in
theorem refUndone_any (A : Option Addr) (c : Nat) (L : List (Int × Int × Int)) (w : World) (hr : RdT w w.heap.size A L) (hl : L.length ≤ 1125899906842624) :
    Calls Try.prog 38 #[.slice A L.length c] w (OutI (SlackE L) (if vldT L then und L else []) w) := by
  have HV := Lib.hid (refValid_any A c L w hr hl)
  have HU := Lib.hid (fun (hv : vldT L = true) W (hW : Below w.heap.size w W) => refurgent_any A c L W (hr.on hW) (okT_of hv))
  have H1 : Hid (vldT L = false → ∀ W, Below w.heap.size w W → OutI (SlackE L) (if vldT L then und L else []) w (.returned (.tuple #[.slice none 0 0, .int .i64 80])) W) := Lib.hid (fun h W hW => ⟨hW, none, 0, by rw [h, SlackE_no h]; rfl, by rw [h]; exact .inl rfl⟩)
  have H2 : Hid (vldT L = true → ∀ W v, Below w.heap.size w W → OwnI W w.heap.size 3 v (und L) → OutI (SlackE L) (if vldT L then und L else []) w (.returned (.tuple #[v, .int .i64 0])) W) := Lib.hid (fun h W v hW h2 => by
    obtain ⟨A2, c2, rfl, h3⟩ := h2.rd
    exact ⟨hW, A2, c2, by rw [h, SlackE_yes h, if_pos rfl], by rw [h]; exact h3⟩)
  have HR := Lib.hid hr
  clear hr
  generalize OutI (SlackE L) (if vldT L then und L else []) w = Q at *
  cases hv : vldT L <;> rw [hv] at HV
  · have HV2 := Lib.hid hv; clear hv HU H2
    generalize L.length = n at *
    go_enter Try.func38, Try.ntmps38
    go_wp2_with (go_at_call 22; refine HV.out.mono ?_; rintro e w1 ⟨rfl, h1⟩)
    exact H1.out HV2.out _ h1
  · have hok := okT_of hv
    have hn12 := hok.1.2
    have hn1 := hok.1.1
    have HU2 := Lib.hid (HU.out hv)
    have H2' := Lib.hid (H2.out hv)
    clear hok HU H1 H2 hv
    have HLEN := Lib.hid (urg_len L)
    have HPM := Lib.hid (fun j (hj : j < (urg L).length) => (plnB_iff.1 (urg_pln (L := L))).2 j (by rw [urg_len] at hj; exact hj))
    have HE : Hid (und L = undI L (urg L) L.length) := Lib.hid rfl
    have HS : Hid (∀ i, undI L (urg L) (i + 1) = if cntI (urg L) i < tc L i then undI L (urg L) i ++ [(i : Int)] else undI L (urg L) i) := Lib.hid (fun _ => rfl)
    have H0 : Hid (undI L (urg L) 0 = []) := Lib.hid rfl
    have HLe := Lib.hid (undI_len L (urg L))
    generalize undI L (urg L) = un at *
    generalize und L = ud at *
    generalize urg L = pl at *
    generalize hn : L.length = n at *
    have HN := Lib.hid hn; clear hn
    have HMI := Lib.hid (fun A2 c2 W (h : RdI W W.heap.size A2 pl) => minutes_any A c n A2 c2 pl W hn12 h HPM.out (by rw [HLEN.out]; omega))
    rw [HLEN.out] at HMI
    go_enter Try.func38, Try.ntmps38
    go_wp2_with (first
      | (go_at_call 22; refine HV.out.mono ?_; rintro e w1 ⟨rfl, h1⟩)
      | (go_at_call 77; refine (HU2.out _ h1).mono ?_; rintro e w2 ⟨A2, c2, rfl, h2, hr2⟩; have HR2 := Lib.hid hr2; clear hr2)
      | (go_at_call 79; refine (HMI.out _ _ _ HR2.out).mono ?_; rintro e w3 ⟨c', rfl, h3, hb3⟩; have HB3 := Lib.hid ((h1.trs h2).trs h3); have HX3 := Lib.hid hb3; clear hb3))
    go_loopg [5, 6] n (fun k v t wr => ∃ i : Nat, t = .int .i64 i ∧ i ≤ n ∧ n - i ≤ k ∧ Below w3.heap.size w3 wr ∧ OwnI wr w3.heap.size 3 v (un i))
    case atStart => exact ⟨0, rfl, by omega, by omega, Below.refl _ _, by rw [H0.out]; exact OwnI.nil _ _ _⟩
    case round =>
      obtain ⟨i, rfl, hi, hk, hB, hO⟩ := hrel
      by_cases hlt : i < n
      · obtain ⟨bb, o, rfl, hbb, c1, c2x, c3⟩ := HR.out.at_ (k := i) (by rw [HN.out]; exact hlt)
        rw [← (HB3.out.trs hB).cell hbb] at c3
        have d1 := (BoxI.on HX3.out hB).cell (k := i) (by rw [cntsT_len]; exact hlt)
        rw [cntsT_ix _ _ _ hlt] at d1
        have HSI := Lib.hid (HS.out i)
        have hul := HLe.out i
        have HO := Lib.hid hO
        have HBB := Lib.hid hB
        have hz := hB.size
        clear c1 c2x hO hB
        generalize cntI pl i = x at *
        generalize tc L i = z at *
        by_cases hx : x < z
        · have HX := Lib.hid hx
          have hdx : decide (x < z) = true := by rw [decide_eq_true_eq]; exact hx
          clear hx
          go_wp2
          go_quiet (fail)
          go_wp2_with (refine wp_app_int 32 rfl (.tmp 30) (.tmp 32) rfl Try.underlying32 infoInt _ w3.heap.size _ (un i) (i : Int) rfl rfl (HO.out.kept ((Below.refl _ _).drewsN _)) (by omega) (by simpa using hz) ?_; intro v6 w6 hO6 hB6 hS6)
          go_roundg (n - (i + 1))
          case measure => omega
          case rel => exact ⟨i + 1, by go_num, by omega, by omega, (HBB.out.drewsN _).trans hB6, by rw [HSI.out, if_pos HX.out]; exact hO6⟩
        · have HX := Lib.hid hx
          have hdx : decide (x < z) = false := by rw [decide_eq_false_iff_not]; exact hx
          clear hx
          go_wp2
          go_quiet (fail)
          go_wp2
          go_roundg (n - (i + 1))
          case measure => omega
          case rel => exact ⟨i + 1, by go_num, by omega, by omega, HBB.out.drewsN _, by rw [HSI.out, if_neg (by have := HX.out; omega)]; exact HO.out.kept ((Below.refl _ _).drewsN _)⟩
      · obtain rfl : n = i := by omega
        have HO := Lib.hid hO
        have HBB := Lib.hid hB
        clear hO hB
        go_wp2
        exact H2'.out _ _ (HB3.out.trs HBB.out) (by rw [HE.out]; exact HO.out.less HB3.out.size)
end Go.Proofs.Ytdafiblnanpiiaa
