/- Walks over package sky and its reference, first part: ranges, the sphere, what is asked of it. -/
import Derived.Test.YtolgpigdioanoaaProg
import Derived.Test.YtolgpigdioanoaaLib2
namespace Go.Proofs.Ytolgpigdioanoaa
set_option linter.unusedSimpArgs false
set_option linter.unusedVariables false
open Go.RowKit

/-- the side of an order -/
def sd (k : Int) : Int := 2 ^ k.toNat
def px (k : Int) : Int := 12 * sd k * sd k
/-- there is the pixel -/
def okP (k p : Int) : Bool := btw 0 k 4 && btw 0 p (px k - 1)
def sph (k : Int) : Value := .agg #[.int .i64 k, .int .i64 (sd k)]
theorem ord_cases {k : Int} (h : btw 0 k 4 = true) : k = 0 ∨ k = 1 ∨ k = 2 ∨ k = 3 ∨ k = 4 := by rw [btw_iff] at h; omega

theorem between_any (a n b : Int) (w : World) :
    Calls Try.prog 63 #[.int .i64 a, .int .i64 n, .int .i64 b] w fun e w' => e = .returned (.bool (btw a n b)) ∧ w = w' := by
  by_cases h : a ≤ n
  all_goals
    go_enter Try.func63, Try.ntmps63
    go_wp2
    go_ret
    exact ⟨ret_bool (by rw [Bool.eq_iff_iff]; simp [btw] <;> omega), rfl⟩

theorem within_any (a n b : Int) (w : World) :
    Calls Try.prog 67 #[.int .i64 a, .int .i64 n, .int .i64 b] w fun e w' => e = .returned (.bool (btw a n b)) ∧ w = w' := by
  by_cases h : a ≤ n
  all_goals
    go_enter Try.func67, Try.ntmps67
    go_wp2
    go_ret
    exact ⟨ret_bool (by rw [Bool.eq_iff_iff]; simp [btw] <;> omega), rfl⟩

theorem isOrder_any (k : Int) (w : World) :
    Calls Try.prog 73 #[.int .i64 k] w fun e w' => e = .returned (.bool (btw 0 k 4)) ∧ w = w' := by
  go_enter Try.func73, Try.ntmps73
  go_wp2_with (go_at_call 67; refine (within_any _ _ _ _).mono ?_; rintro e w' ⟨rfl, rfl⟩)
  go_ret
  exact ⟨rfl, rfl⟩

theorem side_any (k : Int) (w : World) (hk : btw 0 k 4 = true) :
    Calls Try.prog 74 #[.int .i64 k] w fun e w' => e = .returned (.int .i64 (sd k)) ∧ w = w' := by
  rcases ord_cases hk with rfl | rfl | rfl | rfl | rfl
  all_goals
    go_enter Try.func74, Try.ntmps74
    go_wp2
    go_ret
    exact ⟨rfl, rfl⟩

theorem refpixels_any (k : Int) (w : World) (hk : btw 0 k 4 = true) :
    Calls Try.prog 86 #[.int .i64 k] w fun e w' => e = .returned (.int .i64 (px k)) ∧ w = w' := by
  have HS := Lib.hid (fun W => side_any k W hk)
  rcases ord_cases hk with rfl | rfl | rfl | rfl | rfl
  all_goals
    clear hk
    go_enter Try.func86, Try.ntmps86
    go_wp2_with (go_at_call 74; refine (HS.out _).mono ?_; rintro e w' ⟨rfl, rfl⟩; simp only [sd])
    go_ret
    exact ⟨rfl, rfl⟩

theorem isPixel_any (k p : Int) (w : World) :
    Calls Try.prog 66 #[.int .i64 k, .int .i64 p] w fun e w' => e = .returned (.bool (okP k p)) ∧ w = w' := by
  cases hk : btw 0 k 4
  · have HO := Lib.hid (fun W => isOrder_any k W)
    rw [hk] at HO
    have HK := Lib.hid hk; clear hk
    go_enter Try.func66, Try.ntmps66
    go_wp2_with (go_at_call 73; refine (HO.out _).mono ?_; rintro e w' ⟨rfl, rfl⟩)
    go_ret
    exact ⟨ret_bool (by rw [okP, HK.out]; rfl), rfl⟩
  · have HO := Lib.hid (fun W => isOrder_any k W)
    have HS := Lib.hid (fun W => refpixels_any k W hk)
    rw [hk] at HO
    have hpx : IntKind.i64.wrap (px k - 1) = px k - 1 := by rcases ord_cases hk with rfl | rfl | rfl | rfl | rfl <;> rfl
    have HK := Lib.hid hk; clear hk
    have hE : okP k p = btw 0 p (px k - 1) := by rw [okP, HK.out]; rfl
    have HE := Lib.hid hE; clear hE
    generalize px k = m at *
    go_enter Try.func66, Try.ntmps66
    go_wp2_with (first
      | (go_at_call 73; refine (HO.out _).mono ?_; rintro e w' ⟨rfl, rfl⟩)
      | (go_at_call 86; refine (HS.out _).mono ?_; rintro e w' ⟨rfl, rfl⟩)
      | (go_at_call 67; refine (within_any _ _ _ _).mono ?_; rintro e w' ⟨rfl, rfl⟩))
    go_ret
    exact ⟨ret_bool (by rw [HE.out]), rfl⟩

theorem sd_cases {k : Int} (h : btw 0 k 4 = true) : sd k = 1 ∨ sd k = 2 ∨ sd k = 4 ∨ sd k = 8 ∨ sd k = 16 := by
  rcases ord_cases h with rfl | rfl | rfl | rfl | rfl
  · exact .inl rfl
  · exact .inr (.inl rfl)
  · exact .inr (.inr (.inl rfl))
  · exact .inr (.inr (.inr (.inl rfl)))
  · exact .inr (.inr (.inr (.inr rfl)))

/-- a struct of two numbers in a cell of its own, as a result -/
theorem cells_new2 (w : World) (x y : Value) (t : TypeId) : (w.alloc (.cells #[x, y] t)).cell? ⟨w.heap.size, 0, none⟩ = some x ∧ (w.alloc (.cells #[x, y] t)).cell? ⟨w.heap.size, 0 + 1, none⟩ = some y ∧ (w.alloc (.cells #[x, y] t)).cell? ⟨w.heap.size, 1, none⟩ = some y :=
  ⟨(Box.new w t #[x, y]).cell 0, (Box.new w t #[x, y]).cell 1, (Box.new w t #[x, y]).cell 1⟩

theorem open_no (k : Int) (w : World) (hk : btw 0 k 4 = false) :
    Calls Try.prog 76 #[.int .i64 k] w fun e w' => e = .returned (.tuple #[.agg #[.int .i64 0, .int .i64 0], .bool false]) ∧ Below w.heap.size w w' := by
  have HB := Lib.hid (fun W => between_any 0 k 4 W)
  rw [hk] at HB
  clear hk
  go_enter Try.func76, Try.ntmps76
  go_wp2_with (go_at_call 63; refine (HB.out _).mono ?_; rintro e w' ⟨rfl, rfl⟩)
  obtain ⟨e0, e1, e2⟩ := cells_new2 w (.int .i64 0) (.int .i64 0) 68
  refine bodyPost_ret (v := .tuple #[.agg #[.int .i64 0, .int .i64 0], .bool false]) (by simp [results, Try.results76, go_sem, e0, e1, e2]) rfl ⟨rfl, below_alloc _ _⟩
theorem open_ok (k : Int) (w : World) (hk : btw 0 k 4 = true) :
    Calls Try.prog 76 #[.int .i64 k] w fun e w' => e = .returned (.tuple #[.agg #[.int .i64 k, .int .i64 (sd k)], .bool true]) ∧ Below w.heap.size w w' := by
  have HB := Lib.hid (fun W => between_any 0 k 4 W)
  rw [hk] at HB
  rcases ord_cases hk with rfl | rfl | rfl | rfl | rfl
  · clear hk
    go_enter Try.func76, Try.ntmps76
    go_wp2_with (go_at_call 63; refine (HB.out _).mono ?_; rintro e w' ⟨rfl, rfl⟩)
    obtain ⟨e0, e1, e2⟩ := cells_new2 w (.int .i64 0) (.int .i64 1) 68
    refine bodyPost_ret (v := .tuple #[.agg #[.int .i64 0, .int .i64 1], .bool true]) (by simp [results, Try.results76, go_sem, e0, e1, e2]) rfl ⟨rfl, below_alloc _ _⟩
  · clear hk
    go_enter Try.func76, Try.ntmps76
    go_wp2_with (go_at_call 63; refine (HB.out _).mono ?_; rintro e w' ⟨rfl, rfl⟩)
    obtain ⟨e0, e1, e2⟩ := cells_new2 w (.int .i64 1) (.int .i64 2) 68
    refine bodyPost_ret (v := .tuple #[.agg #[.int .i64 1, .int .i64 2], .bool true]) (by simp [results, Try.results76, go_sem, e0, e1, e2]) rfl ⟨rfl, below_alloc _ _⟩
  · clear hk
    go_enter Try.func76, Try.ntmps76
    go_wp2_with (go_at_call 63; refine (HB.out _).mono ?_; rintro e w' ⟨rfl, rfl⟩)
    obtain ⟨e0, e1, e2⟩ := cells_new2 w (.int .i64 2) (.int .i64 4) 68
    refine bodyPost_ret (v := .tuple #[.agg #[.int .i64 2, .int .i64 4], .bool true]) (by simp [results, Try.results76, go_sem, e0, e1, e2]) rfl ⟨rfl, below_alloc _ _⟩
  · clear hk
    go_enter Try.func76, Try.ntmps76
    go_wp2_with (go_at_call 63; refine (HB.out _).mono ?_; rintro e w' ⟨rfl, rfl⟩)
    obtain ⟨e0, e1, e2⟩ := cells_new2 w (.int .i64 3) (.int .i64 8) 68
    refine bodyPost_ret (v := .tuple #[.agg #[.int .i64 3, .int .i64 8], .bool true]) (by simp [results, Try.results76, go_sem, e0, e1, e2]) rfl ⟨rfl, below_alloc _ _⟩
  · clear hk
    go_enter Try.func76, Try.ntmps76
    go_wp2_with (go_at_call 63; refine (HB.out _).mono ?_; rintro e w' ⟨rfl, rfl⟩)
    obtain ⟨e0, e1, e2⟩ := cells_new2 w (.int .i64 4) (.int .i64 16) 68
    refine bodyPost_ret (v := .tuple #[.agg #[.int .i64 4, .int .i64 16], .bool true]) (by simp [results, Try.results76, go_sem, e0, e1, e2]) rfl ⟨rfl, below_alloc _ _⟩

theorem pixels_s (k s : Int) (w : World) (hs : s = 1 ∨ s = 2 ∨ s = 4 ∨ s = 8 ∨ s = 16) :
    Calls Try.prog 77 #[.agg #[.int .i64 k, .int .i64 s]] w fun e w' => e = .returned (.int .i64 (12 * s * s)) ∧ Below w.heap.size w w' := by
  rcases hs with rfl | rfl | rfl | rfl | rfl
  all_goals
    go_enter Try.func77, Try.ntmps77
    go_wp2
    go_ret
    exact ⟨rfl, below_alloc _ _⟩

theorem is_any (k p : Int) (w : World) (hk : btw 0 k 4 = true) :
    Calls Try.prog 126 #[.agg #[.int .i64 k, .int .i64 (sd k)], .int .i64 p] w fun e w' => e = .returned (.bool (btw 0 p (px k - 1))) ∧ Below w.heap.size w w' := by
  have HP := Lib.hid (fun W => pixels_s k (sd k) W (sd_cases hk))
  have hpx : IntKind.i64.wrap (px k - 1) = px k - 1 := by rcases ord_cases hk with rfl | rfl | rfl | rfl | rfl <;> rfl
  rw [show 12 * sd k * sd k = px k from rfl] at HP
  generalize px k = m at *
  generalize sd k = s at *
  clear hk
  go_enter Try.func126, Try.ntmps126
  go_wp2_with (first | (go_at_call 77; refine (HP.out _).mono ?_; rintro e w1 ⟨rfl, h1⟩) | (go_at_call 63; refine (between_any _ _ _ _).mono ?_; rintro e w' ⟨rfl, rfl⟩))
  go_ret
  exact ⟨rfl, (below_alloc _ _).trs h1⟩

theorem ofInt1_any (k p : Int) (g : Nat) (w : World) (hk : btw 0 k 4 = true) (hc : w.cell? ⟨g, 0, none⟩ = some (.int .i64 p)) (hg : g < w.heap.size) :
    Calls Try.prog 125 #[.agg #[.int .i64 k, .int .i64 (sd k)], .pointer (some ⟨g, 0, none⟩)] w fun e w' => e = .returned (.bool (btw 0 p (px k - 1))) ∧ Below w.heap.size w w' := by
  have HI := Lib.hid (fun W => is_any k p W hk)
  clear hk
  rw [← (below_alloc w (.cells #[.int .i64 k, .int .i64 (sd k)] 68)).cell hg] at hc
  generalize sd k = s at *
  go_enter Try.func125, Try.ntmps125
  go_wp2_with (go_at_call 126; refine (HI.out _).mono ?_; rintro e w1 ⟨rfl, h1⟩)
  go_ret
  exact ⟨rfl, (below_alloc _ _).trs h1⟩

theorem ofInts1_any (k p : Int) (g : Nat) (w : World) (hk : btw 0 k 4 = true) (hc : w.cell? ⟨g, 0, none⟩ = some (.int .i64 p)) (hg : g < w.heap.size) :
    Calls Try.prog 127 #[.agg #[.int .i64 k, .int .i64 (sd k)], .pointer (some ⟨g, 0, none⟩)] w fun e w' => e = .returned (.bool (btw 0 p (px k - 1))) ∧ Below w.heap.size w w' := by
  have HI := Lib.hid (fun W => is_any k p W hk)
  clear hk
  rw [← (below_alloc w (.cells #[.int .i64 k, .int .i64 (sd k)] 68)).cell hg] at hc
  generalize sd k = s at *
  go_enter Try.func127, Try.ntmps127
  go_wp2_with (go_at_call 126; refine (HI.out _).mono ?_; rintro e w1 ⟨rfl, h1⟩)
  go_ret
  exact ⟨rfl, (below_alloc _ _).trs h1⟩
end Go.Proofs.Ytolgpigdioanoaa
