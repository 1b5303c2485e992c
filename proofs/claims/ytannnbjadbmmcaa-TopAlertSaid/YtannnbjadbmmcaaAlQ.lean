/- Walks over package alert: Urgent, Undone, IsOverfull. -/
import Derived.Test.YtannnbjadbmmcaaTopAlZ
import Derived.Test.YtannnbjadbmmcaaAlZ
namespace Go.Proofs.Ytannnbjadbmmcaa
open Go.RowKit
attribute [local go_sem] zeroPlanV zeroPlan_size
attribute [local simp] zeroPlan_ne
set_option linter.unusedSimpArgs false
set_option linter.unusedVariables false

set_option maxRecDepth 100000 in
set_option maxHeartbeats 8000000 in
theorem Urgent1_any (A : Option Addr) (c b : Nat) (L : List (Int × Int × Int)) (w : World) (hr : RdT w w.heap.size A L) (hok : okT L) (hcell : w.cell? ⟨b, 0, none⟩ = some (.slice A L.length c)) :
    Calls Try.prog 17 #[.pointer (some ⟨b, 0, none⟩)] w fun e w' => Below w.heap.size w w' ∧ ∃ v, e = .returned v ∧ IsL (urg L) v w' := by
  have HU := Lib.hid (urgent_any A c L w hr hok)
  have hsz : (((urg L).map (Value.int .i64)).toArray).size = 100 := by simp [urg_len]
  have h1c : (((urg L).map (Value.int .i64)).toArray).all (·.oneCell') = true := by simp [Value.oneCell']
  have HI : Hid (∀ W g, Box W g 43 ((urg L).map (Value.int .i64)).toArray → IsL (urg L) (.slice (some ⟨g, 0, none⟩) 100 100) W) := Lib.hid (fun W g h => ⟨some ⟨g, 0, none⟩, 100, by rw [urg_len], BoxK.rd (t := 43) h⟩)
  have HU69 := Lib.hid Try.underlying43
  have hzs := zeroCells_size
  clear hr hok
  generalize IsL (urg L) = R at *
  generalize ((urg L).map (Value.int .i64)).toArray = V at *
  have HZ := Lib.hid (And.intro hsz h1c)
  clear hsz h1c
  generalize L.length = n at *
  go_enter Try.func17, Try.ntmps17
  go_wp2_with (first
    | (go_at_call 18; refine HU.out.mono ?_; rintro e w1 ⟨rfl, h1⟩)
    | (refine wpList_store_mid rfl 43 (.tmp 2) (.tmp 4) rfl w1.heap.size 0 V rfl rfl (by rw [HZ.out.1]; exact box_there (Box.new w1 _ _) zeroCells_size) (by rw [infoPlan, HZ.out.1]) HZ.out.2 ?_; obtain ⟨HB2, HS2⟩ := stored_plan w1 V HZ.out.1; generalize World.setCells _ w1.heap.size 0 V.toList = W2 at *))
  go_ret
  exact ⟨h1.trs HS2.out, _, rfl, HI.out _ _ HB2.out⟩
theorem Urgent_any (A : Option Addr) (c : Nat) (L : List (Int × Int × Int)) (w : World) (hr : RdT w w.heap.size A L) (hl : L.length ≤ 1125899906842624) :
    Calls Try.prog 7 #[.slice A L.length c] w (OutI (SlackE L) (if vldT L then urg L else []) w) := by
  have hB0 := below_alloc w (.cells #[.slice A L.length c] 22)
  have hcell := cell_one w (.slice A L.length c) 22
  have HT := Lib.hid ((toldS_any 17 #[.pointer (some ⟨w.heap.size, 0, none⟩)] A c L (IsL (urg L)) _ (hr.on hB0) hl (enters_of Try.func17 (by kernel_rfl) rfl) (fun hv W hW =>
    Urgent1_any A c w.heap.size L W ((hr.on hB0).on hW) (okT_of hv) ((hW.cell (p := ⟨w.heap.size, 0, none⟩) (by simp)).trans hcell))).mono fun e w' h => (⟨h, OutI.of_told hB0 h⟩ : Told (.slice none 0 0) L (IsL (urg L)) _ e w' ∧ OutI (SlackE L) (if vldT L then urg L else []) w e w'))
  unfold Told at HT
  generalize OutI (SlackE L) (if vldT L then urg L else []) w = Q at *
  clear hr hcell
  generalize IsL (urg L) = R at *
  generalize L.length = n at *
  go_enter Try.func7, Try.ntmps7
  go_wp2_with (go_at_call 16; refine HT.out.mono ?_; rintro e w' ⟨⟨hB, ⟨hv, rfl⟩ | ⟨hv, v, rfl, hR⟩⟩, hQ⟩ <;> (have HQ := Lib.hid hQ; clear hQ hv))
  · exact HQ.out
  · exact HQ.out

/-! ### Undone -/
def undI (L : List (Int × Int × Int)) (p : List Int) : Nat → List Int
  | 0 => []
  | i + 1 => if cntI p i < tc L i then undI L p i ++ [(i : Int)] else undI L p i
theorem undI_len (L : List (Int × Int × Int)) (p : List Int) (i : Nat) : (undI L p i).length ≤ i := by
  induction i with
  | zero => exact Nat.le_refl _
  | succ i ih =>
    simp only [undI]; split
    · rw [List.length_append, List.length_singleton]; omega
    · omega
def und (L : List (Int × Int × Int)) : List Int := undI L (urg L) L.length

def IsoE (L : List (Int × Int × Int)) (a b k : Int) : Int := gateT (vldT L) (strB a b && btw 1 k 4)
def IsoV (L : List (Int × Int × Int)) (a b k : Int) : Value := .tuple #[.bool (decide (IsoE L a b k = 0) && decide (k * (b - a) < dem L a b)), .int .i64 (IsoE L a b k)]

theorem IsOverfull_any (A : Option Addr) (c : Nat) (L : List (Int × Int × Int)) (a b k : Int) (w : World) (hr : RdT w w.heap.size A L) (hl : L.length ≤ 1125899906842624) :
    Calls Try.prog 11 #[.slice A L.length c, .int .i64 a, .int .i64 b, .int .i64 k] w fun e w' => e = .returned (IsoV L a b k) ∧ Below w.heap.size w w' := by
  have HD := Lib.hid (Demand_any A c L a b w hr hl)
  have hE : DemandE L a b = gateT (vldT L) (strB a b) := rfl
  have hI : IsoE L a b k = gateT (vldT L) (strB a b && btw 1 k 4) := rfl
  have hV : IsoV L a b k = .tuple #[.bool (decide (IsoE L a b k = 0) && decide (k * (b - a) < dem L a b)), .int .i64 (IsoE L a b k)] := rfl
  rw [hV, hI]
  clear hr hV hI
  generalize dem L a b = dm at *
  cases hv : vldT L
  · rw [hv] at hE
    have he : DemandE L a b = 80 := hE
    rw [he, valT_no (by decide)] at HD
    clear he hE
    generalize L.length = n at *
    go_enter Try.func11, Try.ntmps11
    go_wp2_with (first | (go_at_call 26; refine HD.out.mono ?_; rintro e w1 ⟨rfl, h1⟩) | (go_at_call 27; (with_reducible refine (between_any _ _ _ _).mono ?_); rintro e w' ⟨rfl, rfl⟩))
    go_ret2
    exact ⟨by first | rfl | simp [gateT], h1⟩
  · rw [hv] at hE
    cases hs : strB a b
    · rw [hs] at hE
      have he : DemandE L a b = 2 := hE
      rw [he, valT_no (by decide)] at HD
      clear he hE
      generalize L.length = n at *
      go_enter Try.func11, Try.ntmps11
      go_wp2_with (first | (go_at_call 26; refine HD.out.mono ?_; rintro e w1 ⟨rfl, h1⟩) | (go_at_call 27; (with_reducible refine (between_any _ _ _ _).mono ?_); rintro e w' ⟨rfl, rfl⟩))
      go_ret2
      exact ⟨by first | rfl | simp [gateT], h1⟩
    · rw [hs] at hE
      have he : DemandE L a b = 0 := hE
      rw [he, valT_ok rfl] at HD
      clear he hE
      have hs2 := strB_iff.1 hs
      cases hk : btw 1 k 4
      · have HK := Lib.hid hk
        clear hs hs2
        generalize L.length = n at *
        go_enter Try.func11, Try.ntmps11
        go_wp2_with (first | (go_at_call 26; refine HD.out.mono ?_; rintro e w1 ⟨rfl, h1⟩) | (go_at_call 27; (with_reducible refine (between_any _ _ _ _).mono ?_); rintro e w' ⟨rfl, rfl⟩))
        go_ret2
        exact ⟨by first | rfl | simp [gateT], h1⟩
      · have hk2 := btw_iff.1 hk
        have hm : 0 ≤ k * (b - a) ∧ k * (b - a) ≤ 400 := by
          rcases (show k = 1 ∨ k = 2 ∨ k = 3 ∨ k = 4 by omega) with rfl | rfl | rfl | rfl <;> omega
        have w1' : wrap64 (b - a) = b - a := IntWalk.wrap64_in _ (by omega)
        have w2' : wrap64 (k * (b - a)) = k * (b - a) := IntWalk.wrap64_in _ (by omega)
        have w3' : IntKind.i64.wrap (b - a) = b - a := IntWalk.i64_in _ (by omega)
        have w4' : IntKind.i64.wrap (k * (b - a)) = k * (b - a) := IntWalk.i64_in _ (by omega)
        clear hs hs2 hk2 hm
        generalize L.length = n at *
        go_enter Try.func11, Try.ntmps11
        go_wp2_with (first | (go_at_call 26; refine HD.out.mono ?_; rintro e w1 ⟨rfl, h1⟩) | (go_at_call 27; (with_reducible refine (between_any _ _ _ _).mono ?_); rintro e w' ⟨rfl, rfl⟩))
        go_ret2
        exact ⟨by first | rfl | simp [gateT], h1⟩
end Go.Proofs.Ytannnbjadbmmcaa
