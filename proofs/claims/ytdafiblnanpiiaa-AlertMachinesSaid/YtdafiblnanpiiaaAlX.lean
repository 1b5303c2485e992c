/- Walks over package alert: whether a plan does all, whether some plan does all; the plan of a list. -/
import Derived.Test.YtdafiblnanpiiaaAlW
import Derived.Test.YtdafiblnanpiiaaAlE
import Derived.Test.YtdafiblnanpiiaaAlLaw2
namespace Go.Proofs.Ytdafiblnanpiiaa
open Go.RowKit
set_option linter.unusedSimpArgs false
set_option linter.unusedVariables false

/-! ### all, can -/
def doF (L : List (Int × Int × Int)) (p : List Int) : Nat → Bool
  | 0 => true
  | i + 1 => doF L p i && decide (cntI p i = tc L i)
theorem doF_iff {L : List (Int × Int × Int)} {p : List Int} {n : Nat} : doF L p n = true ↔ ∀ i, i < n → cntI p i = tc L i := by
  induction n with
  | zero => exact ⟨fun _ i hi => by omega, fun _ => rfl⟩
  | succ n ih =>
    simp only [doF, Bool.and_eq_true, decide_eq_true_eq, ih]
    constructor
    · rintro ⟨h1, h2⟩ i hi
      rcases Nat.lt_succ_iff_lt_or_eq.1 hi with h | rfl
      · exact h1 i h
      · exact h2
    · exact fun h => ⟨fun i hi => h i (by omega), h n (by omega)⟩
theorem doF_all (L : List (Int × Int × Int)) (p : List Int) : doF L p L.length = doesB L p := by rw [Bool.eq_iff_iff, doF_iff, doesB_iff]
def allB (L : List (Int × Int × Int)) (p : List Int) : Bool := rightB L p && doesB L p

set_option maxRecDepth 100000 in
set_option maxHeartbeats 8000000 in
theorem all_any (A : Option Addr) (c : Nat) (L : List (Int × Int × Int)) (p : List Int) (w : World) (hr : RdT w w.heap.size A L) (hok : okT L) (hp : plnB L.length p = true) :
    Calls Try.prog 82 #[.agg (p.map (Value.int .i64)).toArray, .slice A L.length c] w fun e w' => e = .returned (.bool (allB L p)) ∧ Below w.heap.size w w' := by
  have hV : ((p.map (Value.int .i64)).toArray).size = 100 := by simp [(plnB_iff.1 hp).1]
  have b1 := Box.new w 69 (p.map (Value.int .i64)).toArray
  have hB0 := below_alloc w (.cells (p.map (Value.int .i64)).toArray 69)
  have HC := Lib.hid (work_any A c L p _ (hr.on hB0) hok hp)
  have HR := Lib.hid (hr.on hB0); clear hr
  have HO := Lib.hid hok
  have hn12 := hok.1.2
  have hn1 := hok.1.1
  clear hok
  have HB0 := Lib.hid hB0
  have HB1 := Lib.hid b1
  clear hB0 b1
  have HD := Lib.hid (doF_all L p)
  have HS : Hid (∀ i, doF L p (i + 1) = (doF L p i && decide (cntI p i = tc L i))) := Lib.hid (fun _ => rfl)
  have HA : Hid (allB L p = (rightB L p && doesB L p)) := Lib.hid rfl
  unfold WorkR at HC
  clear hp
  generalize hVe : (p.map (Value.int .i64)).toArray = V at *
  clear hVe
  generalize allB L p = al at *
  generalize hrb : rightB L p = rb at *
  clear hrb
  generalize doesB L p = db at *
  generalize hn : L.length = n at *
  have HN := Lib.hid hn; clear hn
  go_enter Try.func82, Try.ntmps82
  go_wp2_with (first
    | (refine wpList_load_row rfl 69 (.tmp 2) rfl w.heap.size rfl 69 _ (0, 0) _ HB1.out Try.underlying69 rfl (by rw [infoPlan, hV]) ?_)
    | (go_at_call 76; refine HC.out.mono ?_; rintro e w1 ⟨h1, v, rfl, ⟨rfl, B, c', rfl, hB⟩ | ⟨rfl, rfl⟩⟩))
  · have HB := Lib.hid (And.intro h1 hB)
    clear h1 hB
    go_loopg [6, 17] n (fun k s t wr => ∃ i : Nat, s = .bool (doF L p i) ∧ t = .int .i64 i ∧ i ≤ n ∧ n - i ≤ k ∧ w1 = wr)
    case atStart => exact ⟨0, rfl, rfl, by omega, by omega, rfl⟩
    case round =>
      obtain ⟨i, rfl, rfl, hi, hk, rfl⟩ := hrel
      by_cases hlt : i < n
      · obtain ⟨bb, o, rfl, hbb, c1, c2, c3⟩ := HR.out.at_ (k := i) (by rw [HN.out]; exact hlt)
        rw [← HB.out.1.cell hbb] at c3
        obtain ⟨b2, o2, rfl, hb2, d1⟩ := HB.out.2.at_ (k := i) (by rw [cntsT_len]; exact hlt)
        rw [cntsT_ix _ _ _ hlt] at d1
        have HSI := Lib.hid (HS.out i)
        clear c1 c2
        generalize cntI p i = x at *
        generalize tc L i = z at *
        cases hd : doF L p i
        · rw [hd] at HSI
          go_wp2
          go_roundg (n - (i + 1))
          case measure => omega
          case rel => exact ⟨i + 1, by rw [HSI.out]; rfl, by go_num, by omega, by omega, rfl⟩
        · rw [hd] at HSI
          go_wp2
          go_roundg (n - (i + 1))
          case measure => omega
          case rel => exact ⟨i + 1, by rw [HSI.out]; rfl, by go_num, by omega, by omega, rfl⟩
      · obtain rfl : i = n := by omega
        go_wp2
        go_ret
        exact ⟨ret_bool (by rw [HA.out, ← HD.out]; rfl), HB0.out.trs HB.out.1⟩
  · have HB := Lib.hid h1
    clear h1
    go_loopg [6, 17] n (fun k s t wr => s = .bool false ∧ t = .int .i64 0 ∧ w1 = wr)
    case atStart => exact ⟨rfl, rfl, rfl⟩
    case round =>
      obtain ⟨rfl, rfl, rfl⟩ := hrel
      go_wp2
      go_ret
      exact ⟨ret_bool (by rw [HA.out]; rfl), HB0.out.trs HB.out⟩

theorem urg_pln {L : List (Int × Int × Int)} : plnB L.length (urg L) = true := by
  refine plnB_iff.2 ⟨urg_len L, fun m hm => ?_⟩
  have := urgP_mem L 100 (ix (urg L) m) (by
    have hl := urg_len L
    rw [show ix (urg L) m = (urg L)[m]'(by omega) by simp [ix, hl, hm]]
    exact List.getElem_mem _)
  exact this
theorem all_urg {L : List (Int × Int × Int)} (hok : okT L) : allB L (urg L) = decide (0 ≤ slk L) := by
  unfold allB
  rw [(rightB_iff urg_pln).2 (urg_right L hok), does_iff_slk L hok]; rfl

theorem can_any (A : Option Addr) (c : Nat) (L : List (Int × Int × Int)) (w : World) (hr : RdT w w.heap.size A L) (hok : okT L) :
    Calls Try.prog 67 #[.slice A L.length c] w fun e w' => e = .returned (.bool (decide (0 ≤ slk L))) ∧ Below w.heap.size w w' := by
  have HU := Lib.hid (urgent_any A c L w hr hok)
  have HC := Lib.hid (fun W (hW : Below w.heap.size w W) => all_any A c L (urg L) W (hr.on hW) hok urg_pln)
  rw [all_urg hok] at HC
  clear hr hok
  generalize decide (0 ≤ slk L) = d at *
  generalize ((urg L).map (Value.int .i64)).toArray = V at *
  generalize L.length = n at *
  go_enter Try.func67, Try.ntmps67
  go_wp2_with (first | (go_at_call 74; refine HU.out.mono ?_; rintro e w1 ⟨rfl, h1⟩) | (go_at_call 82; refine (HC.out _ h1).mono ?_; rintro e w2 ⟨rfl, h2⟩))
  go_ret
  exact ⟨rfl, h1.trs h2⟩

def CanV (L : List (Int × Int × Int)) : Value := .tuple #[.bool (vldT L && decide (0 ≤ slk L)), .int .i64 (SlackE L)]
theorem CanV_no {L : List (Int × Int × Int)} (h : vldT L = false) : CanV L = .tuple #[.bool false, .int .i64 80] := by unfold CanV; rw [SlackE_no h, h]; rfl
theorem CanV_yes {L : List (Int × Int × Int)} (h : vldT L = true) : CanV L = .tuple #[.bool (decide (0 ≤ slk L)), .int .i64 0] := by unfold CanV; rw [SlackE_yes h, h]; rfl
theorem Can1_any (A : Option Addr) (c b : Nat) (L : List (Int × Int × Int)) (w : World) (hr : RdT w w.heap.size A L) (hok : okT L) (hcell : w.cell? ⟨b, 0, none⟩ = some (.slice A L.length c)) :
    Calls Try.prog 69 #[.pointer (some ⟨b, 0, none⟩)] w fun e w' => e = .returned (.bool (decide (0 ≤ slk L))) ∧ Below w.heap.size w w' := by
  have HC := Lib.hid (can_any A c L w hr hok)
  clear hr hok
  generalize decide (0 ≤ slk L) = d at *
  generalize L.length = n at *
  go_enter Try.func69, Try.ntmps69
  go_wp2_with (go_at_call 67; refine HC.out.mono ?_; rintro e w1 ⟨rfl, h1⟩)
  go_ret
  exact ⟨rfl, h1⟩
theorem Can_any (A : Option Addr) (c : Nat) (L : List (Int × Int × Int)) (w : World) (hr : RdT w w.heap.size A L) (hl : L.length ≤ 1125899906842624) :
    Calls Try.prog 24 #[.slice A L.length c] w fun e w' => e = .returned (CanV L) ∧ Below w.heap.size w w' := by
  have hB0 := below_alloc w (.cells #[.slice A L.length c] 22)
  have hcell := cell_one w (.slice A L.length c) 22
  have HT := Lib.hid (toldB_any 69 #[.pointer (some ⟨w.heap.size, 0, none⟩)] A c L (fun v _ => v = .bool (decide (0 ≤ slk L))) _ (hr.on hB0) hl (enters_of Try.func69 (by kernel_rfl) rfl) (fun hv W hW =>
    (Can1_any A c w.heap.size L W ((hr.on hB0).on hW) (okT_of hv) ((hW.cell (p := ⟨w.heap.size, 0, none⟩) (by simp)).trans hcell)).mono (fun e w' ⟨h1, h2⟩ => ⟨h2, _, h1, rfl⟩)))
  clear hr hcell
  have H1 := Lib.hid (@CanV_no L)
  have H2 := Lib.hid (@CanV_yes L)
  unfold Told at HT
  generalize CanV L = V at *
  generalize decide (0 ≤ slk L) = s at *
  generalize L.length = n at *
  go_enter Try.func24, Try.ntmps24
  go_wp2_with (go_at_call 68; refine HT.out.mono ?_; rintro e w' ⟨hB, ⟨hv, rfl⟩ | ⟨hv, v, rfl, rfl⟩⟩ <;> (have HV := Lib.hid hv; clear hv))
  · go_ret2
    exact ⟨by rw [H1.out HV.out]; first | done | rfl, hB0.trs hB⟩
  · go_ret2
    exact ⟨by rw [H2.out HV.out]; first | done | rfl, hB0.trs hB⟩
end Go.Proofs.Ytdafiblnanpiiaa
