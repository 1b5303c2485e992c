/- Walks over package alert: Urgent, Undone, IsOverfull. -/
import Derived.Test.YtdafiblnanpiiaaAlZ
namespace Go.Proofs.Ytdafiblnanpiiaa
open Go.RowKit
set_option linter.unusedSimpArgs false
set_option linter.unusedVariables false

set_option maxRecDepth 100000 in
set_option maxHeartbeats 8000000 in
theorem Urgent1_any (A : Option Addr) (c b : Nat) (L : List (Int × Int × Int)) (w : World) (hr : RdT w w.heap.size A L) (hok : okT L) (hcell : w.cell? ⟨b, 0, none⟩ = some (.slice A L.length c)) :
    Calls Try.prog 73 #[.pointer (some ⟨b, 0, none⟩)] w fun e w' => Below w.heap.size w w' ∧ ∃ v, e = .returned v ∧ IsL (urg L) v w' := by
  have HU := Lib.hid (urgent_any A c L w hr hok)
  have hsz : (((urg L).map (Value.int .i64)).toArray).size = 100 := by simp [urg_len]
  have h1c : (((urg L).map (Value.int .i64)).toArray).all (·.oneCell') = true := by simp [Value.oneCell']
  have HI : Hid (∀ W g, Box W g 69 ((urg L).map (Value.int .i64)).toArray → IsL (urg L) (.slice (some ⟨g, 0, none⟩) 100 100) W) := Lib.hid (fun W g h => ⟨some ⟨g, 0, none⟩, 100, by rw [urg_len], BoxK.rd (t := 69) h⟩)
  have HU69 := Lib.hid Try.underlying69
  have hzs := zeroCells_size
  clear hr hok
  generalize IsL (urg L) = R at *
  generalize ((urg L).map (Value.int .i64)).toArray = V at *
  have HZ := Lib.hid (And.intro hsz h1c)
  clear hsz h1c
  generalize L.length = n at *
  go_enter Try.func73, Try.ntmps73
  go_wp2_with (first
    | (go_at_call 74; refine HU.out.mono ?_; rintro e w1 ⟨rfl, h1⟩)
    | (refine wpList_store_mid rfl 69 (.tmp 2) (.tmp 4) rfl w1.heap.size 0 V rfl rfl (by rw [HZ.out.1]; exact box_there (Box.new w1 _ _) zeroCells_size) (by rw [infoPlan, HZ.out.1]) HZ.out.2 ?_; obtain ⟨HB2, HS2⟩ := stored_plan w1 V HZ.out.1; generalize World.setCells _ w1.heap.size 0 V.toList = W2 at *))
  go_ret
  exact ⟨h1.trs HS2.out, _, rfl, HI.out _ _ HB2.out⟩
theorem Urgent_any (A : Option Addr) (c : Nat) (L : List (Int × Int × Int)) (w : World) (hr : RdT w w.heap.size A L) (hl : L.length ≤ 1125899906842624) :
    Calls Try.prog 31 #[.slice A L.length c] w (OutI (SlackE L) (if vldT L then urg L else []) w) := by
  have hB0 := below_alloc w (.cells #[.slice A L.length c] 22)
  have hcell := cell_one w (.slice A L.length c) 22
  have HT := Lib.hid ((toldS_any 73 #[.pointer (some ⟨w.heap.size, 0, none⟩)] A c L (IsL (urg L)) _ (hr.on hB0) hl (enters_of Try.func73 (by kernel_rfl) rfl) (fun hv W hW =>
    Urgent1_any A c w.heap.size L W ((hr.on hB0).on hW) (okT_of hv) ((hW.cell (p := ⟨w.heap.size, 0, none⟩) (by simp)).trans hcell))).mono fun e w' h => (⟨h, OutI.of_told hB0 h⟩ : Told (.slice none 0 0) L (IsL (urg L)) _ e w' ∧ OutI (SlackE L) (if vldT L then urg L else []) w e w'))
  unfold Told at HT
  generalize OutI (SlackE L) (if vldT L then urg L else []) w = Q at *
  clear hr hcell
  generalize IsL (urg L) = R at *
  generalize L.length = n at *
  go_enter Try.func31, Try.ntmps31
  go_wp2_with (go_at_call 64; refine HT.out.mono ?_; rintro e w' ⟨⟨hB, ⟨hv, rfl⟩ | ⟨hv, v, rfl, hR⟩⟩, hQ⟩ <;> (have HQ := Lib.hid hQ; clear hQ hv))
  · exact HQ.out
  · exact HQ.out

/-! ### Undone -/
def undI (L : List (Int × Int × Int)) (p : List Int) : Nat → List Int
  | 0 => []
  | i + 1 => if cntI p i < tc L i then undI L p i ++ [(i : Int)] else undI L p i
theorem undI_len (L : List (Int × Int × Int)) (p : List Int) (i : Nat) : (undI L p i).length ≤ i := by
  induction i with
  | zero => exact Nat.le_refl _
  | succ i ih =>
    simp only [undI]; split
    · rw [List.length_append, List.length_singleton]; omega
    · omega
def und (L : List (Int × Int × Int)) : List Int := undI L (urg L) L.length

set_option maxRecDepth 100000 in
set_option maxHeartbeats 8000000 in
theorem Undone1_any (A : Option Addr) (c b : Nat) (L : List (Int × Int × Int)) (w : World) (hr : RdT w w.heap.size A L) (hok : okT L) (hcell : w.cell? ⟨b, 0, none⟩ = some (.slice A L.length c)) :
    Calls Try.prog 78 #[.pointer (some ⟨b, 0, none⟩)] w fun e w' => Below w.heap.size w w' ∧ ∃ v, e = .returned v ∧ IsL (und L) v w' := by
  have HU := Lib.hid (fun W (hW : Below w.heap.size w W) => urgent_any A c L W (hr.on hW) hok)
  have HW := Lib.hid (fun W (hW : Below w.heap.size w W) => work_any A c L (urg L) W (hr.on hW) hok urg_pln)
  unfold WorkR at HW
  rw [(rightB_iff urg_pln).2 (urg_right L hok)] at HW
  have HR := Lib.hid hr; clear hr
  have hbl := World.block_lt_of_cell? _ _ hcell
  have HCE := Lib.hid (fun W (hW : Below w.heap.size w W) => (show W.cell? ⟨b, 0, none⟩ = some (.slice A L.length c) from (hW.cell (p := ⟨b, 0, none⟩) hbl).trans hcell))
  have hn12 := hok.1.2
  clear hok
  have HK : Hid (∀ v W, OwnI W w.heap.size 3 v (und L) → IsL (und L) v W) := Lib.hid (fun v W h => by
    obtain ⟨B, d, h1, h2⟩ := h.rd
    exact ⟨B, d, h1, h2⟩)
  have HE : Hid (und L = undI L (urg L) L.length) := Lib.hid rfl
  have HS : Hid (∀ i, undI L (urg L) (i + 1) = if cntI (urg L) i < tc L i then undI L (urg L) i ++ [(i : Int)] else undI L (urg L) i) := Lib.hid (fun _ => rfl)
  have H0 : Hid (undI L (urg L) 0 = []) := Lib.hid rfl
  have HLe := Lib.hid (undI_len L (urg L))
  generalize undI L (urg L) = un at *
  generalize und L = ud at *
  generalize hVe : ((urg L).map (Value.int .i64)).toArray = V at *
  generalize urg L = pl at *
  generalize hn : L.length = n at *
  have HN := Lib.hid hn; clear hn
  go_enter Try.func78, Try.ntmps78
  go_wp2
  go_region_held3 (fun w' => Below w.heap.size w w' ∧ w'.cell? ⟨b, 0, none⟩ = some (.slice A n c))
    (first | exact ⟨h3, HCE.out _ h3⟩ | exact ⟨h1, HCE.out _ h1⟩ | exact ⟨(Below.refl _ _).drewsN 1, HCE.out _ ((Below.refl _ _).drewsN 1)⟩ | go_keep)
    (first
      | (go_at_call 74; refine (HU.out _ (‹Below w.heap.size w _ ∧ _›).1).mono ?_; rintro e w1 ⟨rfl, h1'⟩; have h1 := (‹Below w.heap.size w _ ∧ _›).1.trs h1')
      | (go_at_call 76; refine (HW.out _ h1).mono ?_; rintro e w2 ⟨h2, v, rfl, hh⟩; obtain ⟨B, c', rfl, hB⟩ := hh.resolve_right (fun e => by cases e.1) |>.2; have h3 := h1.trs h2))
  all_goals
    have HRB := Lib.hid hB
    have HB3 := Lib.hid h3
    clear hB h1 h3 h2 h1'
    go_wp2
    go_loopg [4, 16] n (fun k v t wr => ∃ i : Nat, t = .int .i64 i ∧ i ≤ n ∧ n - i ≤ k ∧ Below w2.heap.size w2 wr ∧ OwnI wr w2.heap.size 3 v (un i))
    case atStart => exact ⟨0, rfl, by omega, by omega, Below.refl _ _, by rw [H0.out]; exact OwnI.nil _ _ _⟩
    case round =>
      obtain ⟨i, rfl, hi, hk, hB, hO⟩ := hrel
      by_cases hlt : i < n
      · obtain ⟨bb, o, rfl, hbb, c1, c2, c3⟩ := HR.out.at_ (k := i) (by rw [HN.out]; exact hlt)
        rw [← (HB3.out.trs hB).cell hbb] at c3
        obtain ⟨b2, o2, rfl, hb2, d1⟩ := HRB.out.at_ (k := i) (by rw [cntsT_len]; exact hlt)
        rw [cntsT_ix _ _ _ hlt, ← hB.cell hb2] at d1
        have hcl := HCE.out _ (HB3.out.trs hB)
        have HSI := Lib.hid (HS.out i)
        have hul := HLe.out i
        have HO := Lib.hid hO
        have HBB := Lib.hid hB
        have hz := hB.size
        clear c1 c2 hO hB
        generalize cntI pl i = x at *
        generalize tc L i = z at *
        by_cases hx : x < z
        · have HX := Lib.hid hx
          have hdx : decide (x < z) = true := by rw [decide_eq_true_eq]; exact hx
          clear hx
          go_wp2_with (refine wp_app_int 32 rfl (.tmp 28) (.tmp 30) rfl Try.underlying32 infoInt wr w2.heap.size _ (un i) (i : Int) rfl rfl HO.out (by omega) hz ?_; intro v6 w6 hO6 hB6 hS6)
          go_roundg (n - (i + 1))
          case measure => omega
          case rel => exact ⟨i + 1, by go_num, by omega, by omega, HBB.out.trans hB6, by rw [HSI.out, if_pos HX.out]; exact hO6⟩
        · have HX := Lib.hid hx
          have hdx : decide (x < z) = false := by rw [decide_eq_false_iff_not]; exact hx
          clear hx
          go_wp2
          go_roundg (n - (i + 1))
          case measure => omega
          case rel => exact ⟨i + 1, by go_num, by omega, by omega, HBB.out, by rw [HSI.out, if_neg (by have := HX.out; omega)]; exact HO.out⟩
      · obtain rfl : i = n := by omega
        have HO := Lib.hid hO
        clear hO
        go_wp2
        go_ret
        exact ⟨HB3.out.trs hB, _, rfl, HK.out _ _ (by rw [HE.out]; exact HO.out.less HB3.out.size)⟩
theorem Undone_any (A : Option Addr) (c : Nat) (L : List (Int × Int × Int)) (w : World) (hr : RdT w w.heap.size A L) (hl : L.length ≤ 1125899906842624) :
    Calls Try.prog 37 #[.slice A L.length c] w (OutI (SlackE L) (if vldT L then und L else []) w) := by
  have hB0 := below_alloc w (.cells #[.slice A L.length c] 22)
  have hcell := cell_one w (.slice A L.length c) 22
  have HT := Lib.hid ((toldS_any 78 #[.pointer (some ⟨w.heap.size, 0, none⟩)] A c L (IsL (und L)) _ (hr.on hB0) hl (enters_of Try.func78 (by kernel_rfl) rfl) (fun hv W hW =>
    Undone1_any A c w.heap.size L W ((hr.on hB0).on hW) (okT_of hv) ((hW.cell (p := ⟨w.heap.size, 0, none⟩) (by simp)).trans hcell))).mono fun e w' h => (⟨h, OutI.of_told hB0 h⟩ : Told (.slice none 0 0) L (IsL (und L)) _ e w' ∧ OutI (SlackE L) (if vldT L then und L else []) w e w'))
  unfold Told at HT
  generalize OutI (SlackE L) (if vldT L then und L else []) w = Q at *
  clear hr hcell
  generalize IsL (und L) = R at *
  generalize L.length = n at *
  go_enter Try.func37, Try.ntmps37
  go_wp2_with (go_at_call 64; refine HT.out.mono ?_; rintro e w' ⟨⟨hB, ⟨hv, rfl⟩ | ⟨hv, v, rfl, hR⟩⟩, hQ⟩ <;> (have HQ := Lib.hid hQ; clear hQ hv))
  · exact HQ.out
  · exact HQ.out

/-! ### IsOverfull -/
def IsoE (L : List (Int × Int × Int)) (a b k : Int) : Int := gateT (vldT L) (strB a b && btw 1 k 4)
def IsoV (L : List (Int × Int × Int)) (a b k : Int) : Value := .tuple #[.bool (decide (IsoE L a b k = 0) && decide (k * (b - a) < dem L a b)), .int .i64 (IsoE L a b k)]

theorem IsOverfull_any (A : Option Addr) (c : Nat) (L : List (Int × Int × Int)) (a b k : Int) (w : World) (hr : RdT w w.heap.size A L) (hl : L.length ≤ 1125899906842624) :
    Calls Try.prog 25 #[.slice A L.length c, .int .i64 a, .int .i64 b, .int .i64 k] w fun e w' => e = .returned (IsoV L a b k) ∧ Below w.heap.size w w' := by
  have HD := Lib.hid (Demand_any A c L a b w hr hl)
  have hE : DemandE L a b = gateT (vldT L) (strB a b) := rfl
  have hI : IsoE L a b k = gateT (vldT L) (strB a b && btw 1 k 4) := rfl
  have hV : IsoV L a b k = .tuple #[.bool (decide (IsoE L a b k = 0) && decide (k * (b - a) < dem L a b)), .int .i64 (IsoE L a b k)] := rfl
  rw [hV, hI]
  clear hr hV hI
  generalize dem L a b = dm at *
  cases hv : vldT L
  · rw [hv] at hE
    have he : DemandE L a b = 80 := hE
    rw [he, valT_no (by decide)] at HD
    clear he hE
    generalize L.length = n at *
    go_enter Try.func25, Try.ntmps25
    go_wp2_with (first | (go_at_call 16; refine HD.out.mono ?_; rintro e w1 ⟨rfl, h1⟩) | (go_at_call 70; (with_reducible refine (between_any _ _ _ _).mono ?_); rintro e w' ⟨rfl, rfl⟩))
    go_ret2
    exact ⟨by first | rfl | simp [gateT], h1⟩
  · rw [hv] at hE
    cases hs : strB a b
    · rw [hs] at hE
      have he : DemandE L a b = 2 := hE
      rw [he, valT_no (by decide)] at HD
      clear he hE
      generalize L.length = n at *
      go_enter Try.func25, Try.ntmps25
      go_wp2_with (first | (go_at_call 16; refine HD.out.mono ?_; rintro e w1 ⟨rfl, h1⟩) | (go_at_call 70; (with_reducible refine (between_any _ _ _ _).mono ?_); rintro e w' ⟨rfl, rfl⟩))
      go_ret2
      exact ⟨by first | rfl | simp [gateT], h1⟩
    · rw [hs] at hE
      have he : DemandE L a b = 0 := hE
      rw [he, valT_ok rfl] at HD
      clear he hE
      have hs2 := strB_iff.1 hs
      cases hk : btw 1 k 4
      · have HK := Lib.hid hk
        clear hs hs2
        generalize L.length = n at *
        go_enter Try.func25, Try.ntmps25
        go_wp2_with (first | (go_at_call 16; refine HD.out.mono ?_; rintro e w1 ⟨rfl, h1⟩) | (go_at_call 70; (with_reducible refine (between_any _ _ _ _).mono ?_); rintro e w' ⟨rfl, rfl⟩))
        go_ret2
        exact ⟨by first | rfl | simp [gateT], h1⟩
      · have hk2 := btw_iff.1 hk
        have hm : 0 ≤ k * (b - a) ∧ k * (b - a) ≤ 400 := by
          rcases (show k = 1 ∨ k = 2 ∨ k = 3 ∨ k = 4 by omega) with rfl | rfl | rfl | rfl <;> omega
        have w1' : wrap64 (b - a) = b - a := IntWalk.wrap64_in _ (by omega)
        have w2' : wrap64 (k * (b - a)) = k * (b - a) := IntWalk.wrap64_in _ (by omega)
        have w3' : IntKind.i64.wrap (b - a) = b - a := IntWalk.i64_in _ (by omega)
        have w4' : IntKind.i64.wrap (k * (b - a)) = k * (b - a) := IntWalk.i64_in _ (by omega)
        clear hs hs2 hk2 hm
        generalize L.length = n at *
        go_enter Try.func25, Try.ntmps25
        go_wp2_with (first | (go_at_call 16; refine HD.out.mono ?_; rintro e w1 ⟨rfl, h1⟩) | (go_at_call 70; (with_reducible refine (between_any _ _ _ _).mono ?_); rintro e w' ⟨rfl, rfl⟩))
        go_ret2
        exact ⟨by first | rfl | simp [gateT], h1⟩
end Go.Proofs.Ytdafiblnanpiiaa
