/- SkyA SkyB SkyC -/
import Derived.Test.YtgbpmleipdecgaaProg
import Derived.Test.YtgbpmleipdecgaaLib2
/- Walks over package sky and its reference, first part: ranges, the sphere, what is asked of it. -/
namespace Go.Proofs.Ytgbpmleipdecgaa
set_option linter.unusedSimpArgs false
set_option linter.unusedVariables false
open Go.RowKit

/-- the side of an order -/
def sd (k : Int) : Int := 2 ^ k.toNat
def px (k : Int) : Int := 12 * sd k * sd k
/-- there is the pixel -/
def okP (k p : Int) : Bool := btw 0 k 4 && btw 0 p (px k - 1)
def sph (k : Int) : Value := .agg #[.int .i64 k, .int .i64 (sd k)]
theorem ord_cases {k : Int} (h : btw 0 k 4 = true) : k = 0 ∨ k = 1 ∨ k = 2 ∨ k = 3 ∨ k = 4 := by rw [btw_iff] at h; omega

theorem between_any (a n b : Int) (w : World) :
    Calls Try.prog 34 #[.int .i64 a, .int .i64 n, .int .i64 b] w fun e w' => e = .returned (.bool (btw a n b)) ∧ w = w' := by
  by_cases h : a ≤ n
  all_goals
    go_enter Try.func34, Try.ntmps34
    go_wp2
    go_ret
    exact ⟨ret_bool (by rw [Bool.eq_iff_iff]; simp [btw] <;> omega), rfl⟩

theorem within_any (a n b : Int) (w : World) :
    Calls Try.prog 73 #[.int .i64 a, .int .i64 n, .int .i64 b] w fun e w' => e = .returned (.bool (btw a n b)) ∧ w = w' := by
  by_cases h : a ≤ n
  all_goals
    go_enter Try.func73, Try.ntmps73
    go_wp2
    go_ret
    exact ⟨ret_bool (by rw [Bool.eq_iff_iff]; simp [btw] <;> omega), rfl⟩

theorem isOrder_any (k : Int) (w : World) :
    Calls Try.prog 72 #[.int .i64 k] w fun e w' => e = .returned (.bool (btw 0 k 4)) ∧ w = w' := by
  go_enter Try.func72, Try.ntmps72
  go_wp2_with (go_at_call 73; refine (within_any _ _ _ _).mono ?_; rintro e w' ⟨rfl, rfl⟩)
  go_ret
  exact ⟨rfl, rfl⟩

theorem side_any (k : Int) (w : World) (hk : btw 0 k 4 = true) :
    Calls Try.prog 77 #[.int .i64 k] w fun e w' => e = .returned (.int .i64 (sd k)) ∧ w = w' := by
  rcases ord_cases hk with rfl | rfl | rfl | rfl | rfl
  all_goals
    go_enter Try.func77, Try.ntmps77
    go_wp2
    go_ret
    exact ⟨rfl, rfl⟩

theorem refpixels_any (k : Int) (w : World) (hk : btw 0 k 4 = true) :
    Calls Try.prog 74 #[.int .i64 k] w fun e w' => e = .returned (.int .i64 (px k)) ∧ w = w' := by
  have HS := Lib.hid (fun W => side_any k W hk)
  rcases ord_cases hk with rfl | rfl | rfl | rfl | rfl
  all_goals
    clear hk
    go_enter Try.func74, Try.ntmps74
    go_wp2_with (go_at_call 77; refine (HS.out _).mono ?_; rintro e w' ⟨rfl, rfl⟩; simp only [sd])
    go_ret
    exact ⟨rfl, rfl⟩

theorem isPixel_any (k p : Int) (w : World) :
    Calls Try.prog 54 #[.int .i64 k, .int .i64 p] w fun e w' => e = .returned (.bool (okP k p)) ∧ w = w' := by
  cases hk : btw 0 k 4
  · have HO := Lib.hid (fun W => isOrder_any k W)
    rw [hk] at HO
    have HK := Lib.hid hk; clear hk
    go_enter Try.func54, Try.ntmps54
    go_wp2_with (go_at_call 72; refine (HO.out _).mono ?_; rintro e w' ⟨rfl, rfl⟩)
    go_ret
    exact ⟨ret_bool (by rw [okP, HK.out]; rfl), rfl⟩
  · have HO := Lib.hid (fun W => isOrder_any k W)
    have HS := Lib.hid (fun W => refpixels_any k W hk)
    rw [hk] at HO
    have hpx : IntKind.i64.wrap (px k - 1) = px k - 1 := by rcases ord_cases hk with rfl | rfl | rfl | rfl | rfl <;> rfl
    have HK := Lib.hid hk; clear hk
    have hE : okP k p = btw 0 p (px k - 1) := by rw [okP, HK.out]; rfl
    have HE := Lib.hid hE; clear hE
    generalize px k = m at *
    go_enter Try.func54, Try.ntmps54
    go_wp2_with (first
      | (go_at_call 72; refine (HO.out _).mono ?_; rintro e w' ⟨rfl, rfl⟩)
      | (go_at_call 74; refine (HS.out _).mono ?_; rintro e w' ⟨rfl, rfl⟩)
      | (go_at_call 73; refine (within_any _ _ _ _).mono ?_; rintro e w' ⟨rfl, rfl⟩))
    go_ret
    exact ⟨ret_bool (by rw [HE.out]), rfl⟩

theorem sd_cases {k : Int} (h : btw 0 k 4 = true) : sd k = 1 ∨ sd k = 2 ∨ sd k = 4 ∨ sd k = 8 ∨ sd k = 16 := by
  rcases ord_cases h with rfl | rfl | rfl | rfl | rfl
  · exact .inl rfl
  · exact .inr (.inl rfl)
  · exact .inr (.inr (.inl rfl))
  · exact .inr (.inr (.inr (.inl rfl)))
  · exact .inr (.inr (.inr (.inr rfl)))

/-- a struct of two numbers in a cell of its own, as a result -/
theorem cells_new2 (w : World) (x y : Value) (t : TypeId) : (w.alloc (.cells #[x, y] t)).cell? ⟨w.heap.size, 0, none⟩ = some x ∧ (w.alloc (.cells #[x, y] t)).cell? ⟨w.heap.size, 0 + 1, none⟩ = some y ∧ (w.alloc (.cells #[x, y] t)).cell? ⟨w.heap.size, 1, none⟩ = some y :=
  ⟨(Box.new w t #[x, y]).cell 0, (Box.new w t #[x, y]).cell 1, (Box.new w t #[x, y]).cell 1⟩

theorem open_no (k : Int) (w : World) (hk : btw 0 k 4 = false) :
    Calls Try.prog 39 #[.int .i64 k] w fun e w' => e = .returned (.tuple #[.agg #[.int .i64 0, .int .i64 0], .bool false]) ∧ Below w.heap.size w w' := by
  have HB := Lib.hid (fun W => between_any 0 k 4 W)
  rw [hk] at HB
  clear hk
  go_enter Try.func39, Try.ntmps39
  go_wp2_with (go_at_call 34; refine (HB.out _).mono ?_; rintro e w' ⟨rfl, rfl⟩)
  obtain ⟨e0, e1, e2⟩ := cells_new2 w (.int .i64 0) (.int .i64 0) 54
  refine bodyPost_ret (v := .tuple #[.agg #[.int .i64 0, .int .i64 0], .bool false]) (by simp [results, Try.results39, go_sem, e0, e1, e2]) rfl ⟨rfl, below_alloc _ _⟩
theorem open_ok (k : Int) (w : World) (hk : btw 0 k 4 = true) :
    Calls Try.prog 39 #[.int .i64 k] w fun e w' => e = .returned (.tuple #[.agg #[.int .i64 k, .int .i64 (sd k)], .bool true]) ∧ Below w.heap.size w w' := by
  have HB := Lib.hid (fun W => between_any 0 k 4 W)
  rw [hk] at HB
  rcases ord_cases hk with rfl | rfl | rfl | rfl | rfl
  · clear hk
    go_enter Try.func39, Try.ntmps39
    go_wp2_with (go_at_call 34; refine (HB.out _).mono ?_; rintro e w' ⟨rfl, rfl⟩)
    obtain ⟨e0, e1, e2⟩ := cells_new2 w (.int .i64 0) (.int .i64 1) 54
    refine bodyPost_ret (v := .tuple #[.agg #[.int .i64 0, .int .i64 1], .bool true]) (by simp [results, Try.results39, go_sem, e0, e1, e2]) rfl ⟨rfl, below_alloc _ _⟩
  · clear hk
    go_enter Try.func39, Try.ntmps39
    go_wp2_with (go_at_call 34; refine (HB.out _).mono ?_; rintro e w' ⟨rfl, rfl⟩)
    obtain ⟨e0, e1, e2⟩ := cells_new2 w (.int .i64 1) (.int .i64 2) 54
    refine bodyPost_ret (v := .tuple #[.agg #[.int .i64 1, .int .i64 2], .bool true]) (by simp [results, Try.results39, go_sem, e0, e1, e2]) rfl ⟨rfl, below_alloc _ _⟩
  · clear hk
    go_enter Try.func39, Try.ntmps39
    go_wp2_with (go_at_call 34; refine (HB.out _).mono ?_; rintro e w' ⟨rfl, rfl⟩)
    obtain ⟨e0, e1, e2⟩ := cells_new2 w (.int .i64 2) (.int .i64 4) 54
    refine bodyPost_ret (v := .tuple #[.agg #[.int .i64 2, .int .i64 4], .bool true]) (by simp [results, Try.results39, go_sem, e0, e1, e2]) rfl ⟨rfl, below_alloc _ _⟩
  · clear hk
    go_enter Try.func39, Try.ntmps39
    go_wp2_with (go_at_call 34; refine (HB.out _).mono ?_; rintro e w' ⟨rfl, rfl⟩)
    obtain ⟨e0, e1, e2⟩ := cells_new2 w (.int .i64 3) (.int .i64 8) 54
    refine bodyPost_ret (v := .tuple #[.agg #[.int .i64 3, .int .i64 8], .bool true]) (by simp [results, Try.results39, go_sem, e0, e1, e2]) rfl ⟨rfl, below_alloc _ _⟩
  · clear hk
    go_enter Try.func39, Try.ntmps39
    go_wp2_with (go_at_call 34; refine (HB.out _).mono ?_; rintro e w' ⟨rfl, rfl⟩)
    obtain ⟨e0, e1, e2⟩ := cells_new2 w (.int .i64 4) (.int .i64 16) 54
    refine bodyPost_ret (v := .tuple #[.agg #[.int .i64 4, .int .i64 16], .bool true]) (by simp [results, Try.results39, go_sem, e0, e1, e2]) rfl ⟨rfl, below_alloc _ _⟩

theorem pixels_s (k s : Int) (w : World) (hs : s = 1 ∨ s = 2 ∨ s = 4 ∨ s = 8 ∨ s = 16) :
    Calls Try.prog 41 #[.agg #[.int .i64 k, .int .i64 s]] w fun e w' => e = .returned (.int .i64 (12 * s * s)) ∧ Below w.heap.size w w' := by
  rcases hs with rfl | rfl | rfl | rfl | rfl
  all_goals
    go_enter Try.func41, Try.ntmps41
    go_wp2
    go_ret
    exact ⟨rfl, below_alloc _ _⟩

theorem is_any (k p : Int) (w : World) (hk : btw 0 k 4 = true) :
    Calls Try.prog 59 #[.agg #[.int .i64 k, .int .i64 (sd k)], .int .i64 p] w fun e w' => e = .returned (.bool (btw 0 p (px k - 1))) ∧ Below w.heap.size w w' := by
  have HP := Lib.hid (fun W => pixels_s k (sd k) W (sd_cases hk))
  have hpx : IntKind.i64.wrap (px k - 1) = px k - 1 := by rcases ord_cases hk with rfl | rfl | rfl | rfl | rfl <;> rfl
  rw [show 12 * sd k * sd k = px k from rfl] at HP
  generalize px k = m at *
  generalize sd k = s at *
  clear hk
  go_enter Try.func59, Try.ntmps59
  go_wp2_with (first | (go_at_call 41; refine (HP.out _).mono ?_; rintro e w1 ⟨rfl, h1⟩) | (go_at_call 34; refine (between_any _ _ _ _).mono ?_; rintro e w' ⟨rfl, rfl⟩))
  go_ret
  exact ⟨rfl, (below_alloc _ _).trs h1⟩

theorem ofInt1_any (k p : Int) (g : Nat) (w : World) (hk : btw 0 k 4 = true) (hc : w.cell? ⟨g, 0, none⟩ = some (.int .i64 p)) (hg : g < w.heap.size) :
    Calls Try.prog 58 #[.agg #[.int .i64 k, .int .i64 (sd k)], .pointer (some ⟨g, 0, none⟩)] w fun e w' => e = .returned (.bool (btw 0 p (px k - 1))) ∧ Below w.heap.size w w' := by
  have HI := Lib.hid (fun W => is_any k p W hk)
  clear hk
  rw [← (below_alloc w (.cells #[.int .i64 k, .int .i64 (sd k)] 54)).cell hg] at hc
  generalize sd k = s at *
  go_enter Try.func58, Try.ntmps58
  go_wp2_with (go_at_call 59; refine (HI.out _).mono ?_; rintro e w1 ⟨rfl, h1⟩)
  go_ret
  exact ⟨rfl, (below_alloc _ _).trs h1⟩

end Go.Proofs.Ytgbpmleipdecgaa

/- Walks over package sky: what is asked of a sphere, what is told of a pixel. -/
namespace Go.Proofs.Ytgbpmleipdecgaa
set_option linter.unusedSimpArgs false
set_option linter.unusedVariables false
open Go.RowKit

theorem Box.two {w : World} {g : Nat} {t : TypeId} {x y : Value} (h : Box w g t #[x, y]) :
    (w.cell? ⟨g, 0, none⟩ = some x ∧ w.cell? ⟨g, 1, none⟩ = some y) ∧ w.frozen? ⟨g, 0, none⟩ = false ∧ w.frozen? ⟨g, 1, none⟩ = false :=
  ⟨⟨h.cell 0, h.cell 1⟩, h.frozen 0, h.frozen 1⟩
/-- a struct of two numbers is stored into its cell -/
theorem Box.two_set {w : World} {g : Nat} {t : TypeId} {x y : Value} (h : Box w g t #[x, y]) (a b : Value) :
    ((w.setCell ⟨g, 0, none⟩ a).setCell ⟨g, 1, none⟩ b).cell? ⟨g, 0, none⟩ = some a ∧ ((w.setCell ⟨g, 0, none⟩ a).setCell ⟨g, 1, none⟩ b).cell? ⟨g, 1, none⟩ = some b ∧ ((w.setCell ⟨g, 0, none⟩ a).setCell ⟨g, 1, none⟩ b).cell? ⟨g, 0 + 1, none⟩ = some b :=
  ⟨((h.set_ 0 a).set_ 1 b).cell 0, ((h.set_ 0 a).set_ 1 b).cell 1, ((h.set_ 0 a).set_ 1 b).cell 1⟩

theorem asked_no (k : Int) (f : Value) (w : World) (hk : btw 0 k 4 = false) :
    Calls Try.prog 32 #[.int .i64 k, f] w fun e w' => e = .returned (.tuple #[.agg #[.int .i64 0, .int .i64 0], .int .i64 2]) ∧ Below w.heap.size w w' := by
  have HO := Lib.hid (fun W => open_no k W hk)
  clear hk
  go_enter Try.func32, Try.ntmps32
  go_wp2_with (go_at_call 39; refine (HO.out _).mono ?_; rintro e w1 ⟨rfl, h1⟩; have hbx := ((Box.new w 54 #[.int .i64 0, .int .i64 0]).on h1).alloc (.cells #[.int .i64 0, .int .i64 0] 54); obtain ⟨⟨c0, c1⟩, f0, f1⟩ := hbx.two; have HX := Lib.hid hbx; clear hbx)
  obtain ⟨e0, e1, e2⟩ := HX.out.two_set (.int .i64 0) (.int .i64 0)
  have hB := (((below_alloc w (.cells #[.int .i64 0, .int .i64 0] 54)).trs h1).trs (below_alloc _ (.cells #[.int .i64 0, .int .i64 0] 54)))
  refine bodyPost_ret (v := .tuple #[.agg #[.int .i64 0, .int .i64 0], .int .i64 2]) (by simp [results, Try.results32, go_sem, e0, e1, e2]) rfl ⟨rfl, (hB.setCell (p := ⟨_, _, none⟩) (Nat.le_refl _) _).setCell (p := ⟨_, _, none⟩) (Nat.le_refl _) _⟩

/-- what is asked of a closure of a sphere -/
def PredS (g : Nat) (lb : Array Value) (k : Int) (r : Bool) (w : World) : Prop :=
  ∀ W : World, Below w.heap.size w W → Calls Try.prog g (#[.agg #[.int .i64 k, .int .i64 (sd k)]] ++ lb) W fun e w' => e = .returned (.bool r) ∧ Below W.heap.size W w'

theorem asked_is (k : Int) (g : Nat) (lb : Array Value) (r : Bool) (w : World) (hk : btw 0 k 4 = true) (eg : ∀ args w, (callFunc g args).run Try.prog w = .ok (.enter g args) w) (hp : PredS g lb k r w) :
    Calls Try.prog 32 #[.int .i64 k, .func (.func g) #[] lb] w fun e w' => e = .returned (if r then .tuple #[.agg #[.int .i64 k, .int .i64 (sd k)], .int .i64 0] else .tuple #[.agg #[.int .i64 0, .int .i64 0], .int .i64 2]) ∧ Below w.heap.size w w' := by
  have HO := Lib.hid (fun W => open_ok k W hk)
  have HP := Lib.hid hp; clear hp hk
  unfold PredS at HP
  generalize sd k = s at *
  cases r
  all_goals
    go_enter Try.func32, Try.ntmps32
    go_wp2_with (first
      | (go_at_call 39; refine (HO.out _).mono ?_; rintro e w1 ⟨rfl, h1⟩; obtain ⟨⟨c0, c1⟩, c2, c3⟩ := (Box.new w1 54 #[.int .i64 k, .int .i64 s]).two)
      | (go_at_fn g; refine (HP.out _ (((below_alloc w (.cells #[.int .i64 0, .int .i64 0] 54)).trs h1).trs (below_alloc _ (.cells #[.int .i64 k, .int .i64 s] 54)))).mono ?_; rintro e w2 ⟨rfl, h2⟩; have hb6 := (Box.new w1 54 #[.int .i64 k, .int .i64 s]).on h2; have hbx := (((Box.new w 54 #[.int .i64 0, .int .i64 0]).on h1).alloc (.cells #[.int .i64 k, .int .i64 s] 54)).on h2; clear c0 c1 c2 c3; obtain ⟨⟨c0, c1⟩, f0, f1⟩ := hbx.two; obtain ⟨⟨d0, d1⟩, g0, g1⟩ := hb6.two; have HX := Lib.hid hbx; clear hbx hb6))
  · obtain ⟨e0, e1, e2⟩ := HX.out.two_set (.int .i64 0) (.int .i64 0)
    have hB := (((below_alloc w (.cells #[.int .i64 0, .int .i64 0] 54)).trs h1).trs (below_alloc _ (.cells #[.int .i64 k, .int .i64 s] 54))).trs h2
    refine bodyPost_ret (v := .tuple #[.agg #[.int .i64 0, .int .i64 0], .int .i64 2]) (by simp [results, Try.results32, go_sem, e0, e1, e2]) rfl ⟨rfl, (hB.setCell (p := ⟨_, _, none⟩) (Nat.le_refl _) _).setCell (p := ⟨_, _, none⟩) (Nat.le_refl _) _⟩
  · obtain ⟨e0, e1, e2⟩ := HX.out.two_set (.int .i64 k) (.int .i64 s)
    have hB := (((below_alloc w (.cells #[.int .i64 0, .int .i64 0] 54)).trs h1).trs (below_alloc _ (.cells #[.int .i64 k, .int .i64 s] 54))).trs h2
    refine bodyPost_ret (v := .tuple #[.agg #[.int .i64 k, .int .i64 s], .int .i64 0]) (by simp [results, Try.results32, go_sem, e0, e1, e2]) rfl ⟨rfl, (hB.setCell (p := ⟨_, _, none⟩) (Nat.le_refl _) _).setCell (p := ⟨_, _, none⟩) (Nat.le_refl _) _⟩

/-- what is told by a closure of a sphere -/
def TellS (g : Nat) (lb : Array Value) (k : Int) (R : Value → World → Prop) (w : World) : Prop :=
  ∀ W : World, Below w.heap.size w W → Calls Try.prog g (#[.agg #[.int .i64 k, .int .i64 (sd k)]] ++ lb) W fun e w' => ∃ v, e = .returned v ∧ R v w' ∧ Below W.heap.size W w'

theorem ofInt_any (k p : Int) (g : Nat) (lb : Array Value) (R : Value → World → Prop) (w : World) (eg : ∀ args w, (callFunc g args).run Try.prog w = .ok (.enter g args) w) (ht : okP k p = true → TellS g lb k R w) :
    Calls Try.prog 23 #[.int .i64 k, .int .i64 p, .func (.func g) #[] lb] w fun e w' => (if okP k p then ∃ v, e = .returned (.tuple #[v, .int .i64 0]) ∧ R v w' else e = .returned (.tuple #[.int .i64 0, .int .i64 2])) ∧ Below w.heap.size w w' := by
  have HB0 := below_alloc w (.cells #[.int .i64 p] 3)
  have hg : w.heap.size < (w.alloc (.cells #[.int .i64 p] 3)).heap.size := by simp
  have hc := cell_one w (.int .i64 p) 3
  cases hk : btw 0 k 4
  · have hn : okP k p = false := by rw [okP, hk]; rfl
    have HA := Lib.hid (fun f W => asked_no k f W hk)
    rw [hn]
    clear ht hk hn
    go_enter Try.func23, Try.ntmps23
    go_wp2_with (go_at_call 32; refine (HA.out _ _).mono ?_; rintro e w1 ⟨rfl, h1⟩)
    go_ret2
    exact ⟨rfl, ((HB0.trs h1).trs (below_alloc _ _))⟩
  · have HQ := Lib.hid (fun W (hW : Below (w.alloc (.cells #[.int .i64 p] 3)).heap.size (w.alloc (.cells #[.int .i64 p] 3)) W) => ofInt1_any k p w.heap.size W hk (by rw [hW.cell hg]; exact hc) (Nat.lt_of_lt_of_le hg hW.size))
    have HA := Lib.hid (fun W (h : PredS 58 #[.pointer (some ⟨w.heap.size, 0, none⟩)] k (btw 0 p (px k - 1)) W) => asked_is k 58 #[.pointer (some ⟨w.heap.size, 0, none⟩)] (btw 0 p (px k - 1)) W hk (enters_of Try.func58 (by kernel_rfl) rfl) h)
    have ho : okP k p = btw 0 p (px k - 1) := by rw [okP, hk]; rfl
    have HT := Lib.hid ht; clear ht
    unfold TellS at HT
    unfold PredS at HA
    rw [ho] at HT ⊢
    cases hr : btw 0 p (px k - 1)
    all_goals
      rw [hr] at HT HA HQ
      clear hr ho hk
      generalize sd k = s at *
      go_enter Try.func23, Try.ntmps23
      go_wp2_with (first
        | (go_at_call 32; refine (HA.out _ (fun W hW => HQ.out W hW)).mono ?_; rintro e w1 ⟨rfl, h1⟩)
        | (go_at_fn g; refine (HT.out (by simp) _ ((HB0.trs h1).trs (below_alloc _ _))).mono ?_; rintro e w2 ⟨v, rfl, hR, h2⟩))
      go_ret2
    · exact ⟨rfl, ((HB0.trs h1).trs (below_alloc _ _))⟩
    · exact ⟨⟨v, rfl, hR⟩, ((HB0.trs h1).trs (below_alloc _ _)).trs h2⟩

end Go.Proofs.Ytgbpmleipdecgaa

/- Walks over package sky: the pixel of a lesser order, children. -/
namespace Go.Proofs.Ytgbpmleipdecgaa
set_option linter.unusedSimpArgs false
set_option linter.unusedVariables false
open Go.RowKit

def upV (k p t : Int) : Int := p / 2 ^ (2 * (k - t)).toNat
theorem okP_k {k p : Int} (h : okP k p = true) : btw 0 k 4 = true := by unfold okP at h; exact (Bool.and_eq_true_iff.1 h).1
theorem px_le {k : Int} (h : btw 0 k 4 = true) : 12 ≤ px k ∧ px k ≤ 3072 := by rcases ord_cases h with rfl | rfl | rfl | rfl | rfl <;> decide
theorem okP_p {k p : Int} (h : okP k p = true) : 0 ≤ p ∧ p < 3072 := by
  have h1 := px_le (okP_k h)
  unfold okP at h
  have h2 := btw_iff.1 (Bool.and_eq_true_iff.1 h).2
  omega

/-- the three cells -/
theorem three_boxes (w : World) (a b c : Value) (t : TypeId) :
    ((((w.alloc (.cells #[a] t)).alloc (.cells #[b] t)).alloc (.cells #[c] t)).cell? ⟨w.heap.size, 0, none⟩ = some a) ∧ ((((w.alloc (.cells #[a] t)).alloc (.cells #[b] t)).alloc (.cells #[c] t)).cell? ⟨w.heap.size + 1, 0, none⟩ = some b) ∧ ((((w.alloc (.cells #[a] t)).alloc (.cells #[b] t)).alloc (.cells #[c] t)).cell? ⟨w.heap.size + 1 + 1, 0, none⟩ = some c) := by
  have h2 := (Box.new (w.alloc (.cells #[a] t)) t #[b]).alloc (.cells #[c] t)
  have h3 := Box.new ((w.alloc (.cells #[a] t)).alloc (.cells #[b] t)) t #[c]
  rw [World.size_alloc] at h2
  rw [World.size_alloc, World.size_alloc] at h3
  exact ⟨(((Box.new w t #[a]).alloc (.cells #[b] t)).alloc (.cells #[c] t)).cell 0, h2.cell 0, h3.cell 0⟩

def kids (p : Int) : List Int := [4 * p, 4 * p + 1, 4 * p + 2, 4 * p + 3]
theorem RdI.four (w : World) (a b c d : Int) (t : TypeId) : RdI (w.alloc (.cells #[.int .i64 a, .int .i64 b, .int .i64 c, .int .i64 d] t)) (w.alloc (.cells #[.int .i64 a, .int .i64 b, .int .i64 c, .int .i64 d] t)).heap.size (some ⟨w.heap.size, 0, none⟩) [a, b, c, d] := by
  refine .inr ⟨w.heap.size, 0, rfl, by simp, fun k hk => ?_⟩
  have h := (Box.new w t #[.int .i64 a, .int .i64 b, .int .i64 c, .int .i64 d]).cell k
  have hk : k < 4 := hk
  rcases (show k = 0 ∨ k = 1 ∨ k = 2 ∨ k = 3 by omega) with rfl | rfl | rfl | rfl <;> exact h
def IsInts (l : List Int) (v : Value) (w : World) : Prop := ∃ A c, v = .slice A l.length c ∧ RdI w w.heap.size A l
end Go.Proofs.Ytgbpmleipdecgaa
