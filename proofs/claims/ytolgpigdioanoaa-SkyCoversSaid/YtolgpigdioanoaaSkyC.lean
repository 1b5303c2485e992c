/- Walks over package sky: the pixel of a lesser order, children. -/
import Derived.Test.YtolgpigdioanoaaSkyB
namespace Go.Proofs.Ytolgpigdioanoaa
set_option linter.unusedSimpArgs false
set_option linter.unusedVariables false
open Go.RowKit

def upV (k p t : Int) : Int := p / 2 ^ (2 * (k - t)).toNat
theorem okP_k {k p : Int} (h : okP k p = true) : btw 0 k 4 = true := by unfold okP at h; exact (Bool.and_eq_true_iff.1 h).1
theorem px_le {k : Int} (h : btw 0 k 4 = true) : 12 ≤ px k ∧ px k ≤ 3072 := by rcases ord_cases h with rfl | rfl | rfl | rfl | rfl <;> decide
theorem okP_p {k p : Int} (h : okP k p = true) : 0 ≤ p ∧ p < 3072 := by
  have h1 := px_le (okP_k h)
  unfold okP at h
  have h2 := btw_iff.1 (Bool.and_eq_true_iff.1 h).2
  omega

theorem up1_any (s k p to_ : Int) (g1 g2 g3 : Nat) (w : World) (hk : btw 0 k 4 = true) (ht : btw 0 to_ k = true) (h1 : w.cell? ⟨g1, 0, none⟩ = some (.int .i64 p)) (h2 : w.cell? ⟨g2, 0, none⟩ = some (.int .i64 k)) (h3 : w.cell? ⟨g3, 0, none⟩ = some (.int .i64 to_)) (l1 : g1 < w.heap.size) (l2 : g2 < w.heap.size) (l3 : g3 < w.heap.size) :
    Calls Try.prog 65 #[.agg #[.int .i64 k, .int .i64 s], .pointer (some ⟨g1, 0, none⟩), .pointer (some ⟨g2, 0, none⟩), .pointer (some ⟨g3, 0, none⟩)] w fun e w' => ∃ v, e = .returned v ∧ v = .int .i64 (upV k p to_) ∧ Below w.heap.size w w' := by
  rw [btw_iff] at hk ht
  have hb := below_alloc w (.cells #[.int .i64 k, .int .i64 s] 68)
  rw [← hb.cell l1] at h1
  rw [← hb.cell l2] at h2
  rw [← hb.cell l3] at h3
  have hw1 : IntKind.i64.wrap (k - to_) = k - to_ := IntWalk.i64_in _ (by omega)
  have hw2 : IntKind.i64.wrap (2 * (k - to_)) = 2 * (k - to_) := IntWalk.i64_in _ (by omega)
  have hw0 : 0 ≤ 2 * (k - to_) := by omega
  have hw3 : 2 * (k - to_) < 64 := by omega
  go_enter Try.func65, Try.ntmps65
  go_wp2_with fail
  go_ret
  exact ⟨_, rfl, rfl, hb⟩

/-- the three cells -/
theorem three_boxes (w : World) (a b c : Value) (t : TypeId) :
    ((((w.alloc (.cells #[a] t)).alloc (.cells #[b] t)).alloc (.cells #[c] t)).cell? ⟨w.heap.size, 0, none⟩ = some a) ∧ ((((w.alloc (.cells #[a] t)).alloc (.cells #[b] t)).alloc (.cells #[c] t)).cell? ⟨w.heap.size + 1, 0, none⟩ = some b) ∧ ((((w.alloc (.cells #[a] t)).alloc (.cells #[b] t)).alloc (.cells #[c] t)).cell? ⟨w.heap.size + 1 + 1, 0, none⟩ = some c) := by
  have h2 := (Box.new (w.alloc (.cells #[a] t)) t #[b]).alloc (.cells #[c] t)
  have h3 := Box.new ((w.alloc (.cells #[a] t)).alloc (.cells #[b] t)) t #[c]
  rw [World.size_alloc] at h2
  rw [World.size_alloc, World.size_alloc] at h3
  exact ⟨(((Box.new w t #[a]).alloc (.cells #[b] t)).alloc (.cells #[c] t)).cell 0, h2.cell 0, h3.cell 0⟩

theorem Up_any (k p to_ : Int) (w : World) :
    Calls Try.prog 17 #[.int .i64 k, .int .i64 p, .int .i64 to_] w fun e w' => e = .returned (if okP k p && btw 0 to_ k then .tuple #[.int .i64 (upV k p to_), .int .i64 0] else .tuple #[.int .i64 0, .int .i64 2]) ∧ Below w.heap.size w w' := by
  have hB0 : Below w.heap.size w (((w.alloc (.cells #[.int .i64 k] 3)).alloc (.cells #[.int .i64 p] 3)).alloc (.cells #[.int .i64 to_] 3)) := ((below_alloc w _).trs (below_alloc _ _)).trs (below_alloc _ _)
  obtain ⟨q1, q2, q3⟩ := three_boxes w (.int .i64 k) (.int .i64 p) (.int .i64 to_) 3
  have HB := Lib.hid (fun W => between_any 0 to_ k W)
  have HF := Lib.hid (fun ht => ofInt_any k p 65 #[.pointer (some ⟨w.heap.size + 1, 0, none⟩), .pointer (some ⟨w.heap.size, 0, none⟩), .pointer (some ⟨w.heap.size + 1 + 1, 0, none⟩)] (fun v _ => v = .int .i64 (upV k p to_)) (((w.alloc (.cells #[.int .i64 k] 3)).alloc (.cells #[.int .i64 p] 3)).alloc (.cells #[.int .i64 to_] 3)) (enters_of Try.func65 (by kernel_rfl) rfl) ht)
  have HT : Hid (btw 0 to_ k = true → okP k p = true → TellS 65 #[.pointer (some ⟨w.heap.size + 1, 0, none⟩), .pointer (some ⟨w.heap.size, 0, none⟩), .pointer (some ⟨w.heap.size + 1 + 1, 0, none⟩)] k (fun v _ => v = .int .i64 (upV k p to_)) (((w.alloc (.cells #[.int .i64 k] 3)).alloc (.cells #[.int .i64 p] 3)).alloc (.cells #[.int .i64 to_] 3))) := by
    intro ht hok W hW
    have hs := hW.size
    simp only [World.size_alloc] at hs
    have := up1_any (sd k) k p to_ (w.heap.size + 1) w.heap.size (w.heap.size + 1 + 1) W (okP_k hok) ht (by rw [hW.cell (by simp)]; exact q2) (by rw [hW.cell (by simp; omega)]; exact q1) (by rw [hW.cell (by simp)]; exact q3) (by omega) (by omega) (by omega)
    exact this
  cases hto : btw 0 to_ k
  · rw [hto] at HB
    simp only [Bool.and_false]
    clear HF HT hto q1 q2 q3
    go_enter Try.func17, Try.ntmps17
    go_wp2_with (go_at_call 63; refine (HB.out _).mono ?_; rintro e w' ⟨rfl, rfl⟩)
    go_ret2
    exact ⟨rfl, hB0⟩
  · rw [hto] at HB
    have HF2 := Lib.hid (HF.out (HT.out hto)); clear HF HT hto
    simp only [Bool.and_true]
    cases hok : okP k p
    all_goals
      rw [hok] at HF2
      clear hok
      go_enter Try.func17, Try.ntmps17
    · go_wp2_with (first
        | (go_at_call 63; refine (HB.out _).mono ?_; rintro e w' ⟨rfl, rfl⟩)
        | (go_at_call 64; refine HF2.out.mono ?_; rintro e w1 ⟨rfl, h1⟩))
      go_ret2
      exact ⟨rfl, hB0.trs h1⟩
    · go_wp2_with (first
        | (go_at_call 63; refine (HB.out _).mono ?_; rintro e w' ⟨rfl, rfl⟩)
        | (go_at_call 64; refine HF2.out.mono ?_; rintro e w1 ⟨⟨v, rfl, rfl⟩, h1⟩))
      go_ret2
      exact ⟨rfl, hB0.trs h1⟩

theorem refUp_any (k p to_ : Int) (w : World) :
    Calls Try.prog 18 #[.int .i64 k, .int .i64 p, .int .i64 to_] w fun e w' => e = .returned (if okP k p && btw 0 to_ k then .tuple #[.int .i64 (upV k p to_), .int .i64 0] else .tuple #[.int .i64 0, .int .i64 2]) ∧ w = w' := by
  have HP := Lib.hid (fun W => isPixel_any k p W)
  have HB := Lib.hid (fun W => within_any 0 to_ k W)
  cases hok : okP k p
  · rw [hok] at HP
    clear hok
    go_enter Try.func18, Try.ntmps18
    go_wp2_with (go_at_call 66; refine (HP.out _).mono ?_; rintro e w' ⟨rfl, rfl⟩)
    go_ret2
    exact ⟨rfl, rfl⟩
  · cases hto : btw 0 to_ k
    · rw [hok] at HP
      rw [hto] at HB
      clear hok hto
      go_enter Try.func18, Try.ntmps18
      go_wp2_with (first | (go_at_call 66; refine (HP.out _).mono ?_; rintro e w' ⟨rfl, rfl⟩) | (go_at_call 67; refine (HB.out _).mono ?_; rintro e w' ⟨rfl, rfl⟩))
      go_ret2
      exact ⟨rfl, rfl⟩
    · have hk := btw_iff.1 (okP_k hok)
      have ht := btw_iff.1 hto
      have hw1 : IntKind.i64.wrap (k - to_) = k - to_ := IntWalk.i64_in _ (by omega)
      have hw2 : IntKind.i64.wrap (2 * (k - to_)) = 2 * (k - to_) := IntWalk.i64_in _ (by omega)
      have hw0 : 0 ≤ 2 * (k - to_) := by omega
      have hw3 : 2 * (k - to_) < 64 := by omega
      rw [hok] at HP
      rw [hto] at HB
      clear hok hto hk ht
      go_enter Try.func18, Try.ntmps18
      go_wp2_with (first | (go_at_call 66; refine (HP.out _).mono ?_; rintro e w' ⟨rfl, rfl⟩) | (go_at_call 67; refine (HB.out _).mono ?_; rintro e w' ⟨rfl, rfl⟩))
      go_ret2
      exact ⟨rfl, rfl⟩

/-! ### children -/
def kids (p : Int) : List Int := [4 * p, 4 * p + 1, 4 * p + 2, 4 * p + 3]
theorem RdI.four (w : World) (a b c d : Int) (t : TypeId) : RdI (w.alloc (.cells #[.int .i64 a, .int .i64 b, .int .i64 c, .int .i64 d] t)) (w.alloc (.cells #[.int .i64 a, .int .i64 b, .int .i64 c, .int .i64 d] t)).heap.size (some ⟨w.heap.size, 0, none⟩) [a, b, c, d] := by
  refine .inr ⟨w.heap.size, 0, rfl, by simp, fun k hk => ?_⟩
  have h := (Box.new w t #[.int .i64 a, .int .i64 b, .int .i64 c, .int .i64 d]).cell k
  have hk : k < 4 := hk
  rcases (show k = 0 ∨ k = 1 ∨ k = 2 ∨ k = 3 by omega) with rfl | rfl | rfl | rfl <;> exact h
def IsInts (l : List Int) (v : Value) (w : World) : Prop := ∃ A c, v = .slice A l.length c ∧ RdI w w.heap.size A l
end Go.Proofs.Ytolgpigdioanoaa
