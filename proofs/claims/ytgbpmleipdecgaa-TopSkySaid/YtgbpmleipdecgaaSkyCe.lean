/- Walks over package sky: which cells are ones; the region of cells. -/
import Derived.Test.YtgbpmleipdecgaaSkyCd
import Derived.Test.YtgbpmleipdecgaaLibQ
import Derived.Laws.EntriesVeiled
namespace Go.Proofs.Ytgbpmleipdecgaa
open Go.RowKit
set_option linter.unusedSimpArgs false
set_option linter.unusedVariables false

theorem box_there2 {w : World} {g : Nat} {t : TypeId} {cs : Array Value} {n : Nat} (h : Box w g t cs) (hn : cs.size = n) : w.there g 0 n := fun j hj => by
  rw [Nat.zero_add]
  exact ⟨by rw [h.cell]; rw [Array.getElem?_eq_getElem (by omega)]; rfl, h.frozen j⟩
theorem box_setAll2 {w : World} {g : Nat} {t : TypeId} {cs vs : Array Value} (h : Box w g t cs) (hl : vs.size = cs.size) : Box (w.setCells g 0 vs.toList) g t vs := by
  have := box_setCells vs.toList 0 cs h (by simp [hl])
  rw [show cs.toList.drop (0 + vs.toList.length) = [] from List.drop_eq_nil_of_le (by simp [hl])] at this
  simpa using this
set_option maxHeartbeats 1000000 in
theorem isCell_any (k p : Int) (w : World) :
    Calls Try.prog 45 #[.agg #[.int .i64 k, .int .i64 p]] w fun e w' => e = .returned (.bool (okP k p)) ∧ Below w.heap.size w w' := by
  have h2 := Box.new w 37 #[.int .i64 k, .int .i64 p]
  have HB := Lib.hid (below_alloc w (.cells #[.int .i64 k, .int .i64 p] 37))
  have HX := Lib.hid h2
  cases hk : btw 0 k 4
  · have HO := Lib.hid (fun W => open_no k W hk)
    have HR : Hid (okP k p = false) := Lib.hid (by unfold okP; rw [hk]; rfl)
    clear h2 hk
    generalize okP k p = r at *
    go_enter Try.func45, Try.ntmps45
    go_upto_region 1 with (fail)
    generalize hW0 : w.alloc (.cells #[.int .i64 k, .int .i64 p] 37) = W0 at *
    clear hW0
    have k0 := HX.out.cell 0
    simp at k0
    go_wp2_with (go_at_call 39; refine (HO.out _).mono ?_; rintro e w1 ⟨rfl, h1⟩)
    go_ret
    exact ⟨ret_bool (by rw [HR.out]; first | done | rfl), HB.out.trs (h1.trs (below_alloc _ _))⟩
  · have HO := Lib.hid (fun W => open_ok k W hk)
    have HI := Lib.hid (fun W => is_any k p W hk)
    have HR : Hid (okP k p = btw 0 p (px k - 1)) := Lib.hid (by unfold okP; rw [hk]; rfl)
    clear h2 hk
    generalize okP k p = r at *
    generalize btw 0 p (px k - 1) = r2 at *
    generalize sd k = s at *
    go_enter Try.func45, Try.ntmps45
    go_upto_region 1 with (fail)
    generalize hW0 : w.alloc (.cells #[.int .i64 k, .int .i64 p] 37) = W0 at *
    clear hW0
    have k0 := HX.out.cell 0
    simp at k0
    go_wp2_with (first
      | (go_at_call 39; refine (HO.out _).mono ?_; rintro e w1 ⟨rfl, h1⟩; have k1 := ((HX.out.on h1).alloc (.cells #[.int .i64 k, .int .i64 s] 54)).cell 1; simp at k1)
      | (go_at_call 59; refine (HI.out _).mono ?_; rintro e w2 ⟨rfl, h2⟩))
    go_ret
    exact ⟨ret_bool (by rw [HR.out]; first | done | rfl), HB.out.trs ((h1.trs (below_alloc _ _)).trs h2)⟩
theorem valid1_any (k p : Int) (w : World) :
    Calls Try.prog 70 #[.agg #[.int .i64 k, .int .i64 p]] w fun e w' => e = .returned (.bool (!(okP k p))) ∧ Below w.heap.size w w' := by
  have HI := Lib.hid (fun W => isCell_any k p W)
  have h2 := Box.new w 37 #[.int .i64 k, .int .i64 p]
  have HB := Lib.hid (below_alloc w (.cells #[.int .i64 k, .int .i64 p] 37))
  generalize okP k p = r at *
  go_enter Try.func70, Try.ntmps70
  go_wp2_with (go_at_call 45; refine (HI.out _).mono ?_; rintro e w1 ⟨rfl, h1⟩)
  go_ret
  exact ⟨rfl, HB.out.trs h1⟩
def PredC (g : Nat) (lb : Array Value) (p : Int → Int → Bool) (w : World) : Prop :=
  ∀ (W : World) (x y : Int), Below w.heap.size w W → Calls Try.prog g (#[.agg #[.int .i64 x, .int .i64 y]] ++ lb) W fun e w' => e = .returned (.bool (p x y)) ∧ Below W.heap.size W w'
theorem IndexFuncC_any (g : Nat) (lb : Array Value) (A : Option Addr) (c : Nat) (L : List (Int × Int)) (p : Int → Int → Bool) (w : World) (hr : RdP w w.heap.size A L) (hl : L.length ≤ 1125899906842624)
  (eg : ∀ args w, (callFunc g args).run Try.prog w = .ok (.enter g args) w) (hp : PredC g lb p w) :
    Calls Try.prog 76 #[.slice A L.length c, .func (.func g) #[] lb] w fun e w' => e = .returned (.int .i64 (idxF (fun k => p (pa L k) (pb L k)) L.length)) ∧ Below w.heap.size w w' := by
  have HP := Lib.hid hp; clear hp
  have HR := Lib.hid hr; clear hr
  generalize hq : idxF (fun k => p (pa L k) (pb L k)) L.length = res
  have HQ := Lib.hid hq; clear hq
  generalize hn : L.length = n at *
  have HN := Lib.hid hn; clear hn
  go_enter Try.func76, Try.ntmps76
  go_wp2
  go_loopg [8] n (fun k s wr => ∃ i : Nat, s = .int .i64 i ∧ i ≤ n ∧ n - i ≤ k ∧ Below w.heap.size w wr ∧ Aside (∀ t, t < i → p (pa L t) (pb L t) = false))
  case atStart => exact ⟨0, rfl, by omega, by omega, Below.refl _ _, (fun t ht => absurd ht (Nat.not_lt_zero t) : ∀ t, t < 0 → p (pa L t) (pb L t) = false)⟩
  case round =>
    obtain ⟨i, rfl, hi, hk, hB, HA⟩ := hrel
    by_cases hlt : i < n
    · obtain ⟨b, o, rfl, hb, c1, c2⟩ := HR.out.at_ (k := i) (by rw [HN.out]; exact hlt)
      rw [← hB.cell hb] at c1 c2
      have hcall := HP.out wr (pa L i) (pb L i) hB
      cases hpi : p (pa L i) (pb L i)
      all_goals
        rw [hpi] at hcall
        have HPI := Lib.hid hpi; clear hpi
        go_wp2_with (go_at_fn g; refine hcall.mono ?_; rintro e w' ⟨rfl, hB'⟩)
      · go_roundg (n - (i + 1))
        case measure => omega
        case rel => exact ⟨i + 1, by go_num, by omega, by omega, hB.trs hB', fun t ht => by
            rcases Nat.lt_succ_iff_lt_or_eq.1 ht with h | rfl
            · exact HA.out t h
            · exact HPI.out⟩
      · go_ret
        exact ⟨ret_int (by rw [← HQ.out]; exact (idxF_hit hlt HPI.out HA.out).symm), hB.trs hB'⟩
    · obtain rfl : i = n := by omega
      go_wp2
      go_ret
      exact ⟨ret_int (by rw [← HQ.out]; exact (idxF_miss HA.out).symm), hB⟩
theorem ContainsFuncC_any (g : Nat) (lb : Array Value) (A : Option Addr) (c : Nat) (L : List (Int × Int)) (p : Int → Int → Bool) (w : World) (hr : RdP w w.heap.size A L) (hl : L.length ≤ 1125899906842624)
  (eg : ∀ args w, (callFunc g args).run Try.prog w = .ok (.enter g args) w) (hp : PredC g lb p w) :
    Calls Try.prog 69 #[.slice A L.length c, .func (.func g) #[] lb] w fun e w' => e = .returned (.bool (anyF (fun k => p (pa L k) (pb L k)) L.length)) ∧ Below w.heap.size w w' := by
  have H := IndexFuncC_any g lb A c L p w hr hl eg hp
  have HH := Lib.hid H; clear H hr
  have HP := Lib.hid hp; clear hp
  generalize hn : idxF (fun k => p (pa L k) (pb L k)) L.length = r at *
  have HN := Lib.hid hn; clear hn
  generalize L.length = n at *
  go_enter Try.func69, Try.ntmps69
  go_wp2_with (go_at_call 76; refine HH.out.mono ?_; rintro e w' ⟨rfl, hB⟩)
  go_ret
  exact ⟨ret_bool (by unfold anyF; rw [HN.out]), hB⟩
end Go.Proofs.Ytgbpmleipdecgaa
