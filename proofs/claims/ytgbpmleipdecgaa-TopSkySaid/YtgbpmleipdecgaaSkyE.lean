/- Walks over package sky: the sanity check of its statements. -/
import Derived.Test.YtgbpmleipdecgaaSkyD
namespace Go.Proofs.Ytgbpmleipdecgaa
set_option linter.unusedSimpArgs false
set_option linter.unusedVariables false
open Go.RowKit

/-- what gather tells -/
def gat1 (n : Int) : Int := bits BinOp.or IntKind.i64 0 (wrap64 (bits BinOp.and IntKind.i64 n 1))
def gat2 (n : Int) : Int := bits BinOp.or IntKind.i64 (gat1 n) (wrap64 (bits BinOp.and IntKind.i64 (n / 4) 1 * 2))
def gat3 (n : Int) : Int := bits BinOp.or IntKind.i64 (gat2 n) (wrap64 (bits BinOp.and IntKind.i64 (n / 16) 1 * 4))
def gat (n : Int) : Int := bits BinOp.or IntKind.i64 (gat3 n) (wrap64 (bits BinOp.and IntKind.i64 (n / 64) 1 * 8))
theorem gather_any (n : Int) (w : World) :
    Calls Try.prog 62 #[.int .i64 n] w fun e w' => e = .returned (.int .i64 (gat n)) ∧ w = w' := by
  go_enter Try.func62, Try.ntmps62
  go_wp2
  go_loopg [3, 4, 5] 4 (fun k s t u wr => ((s = .int .i64 0 ∧ u = .int .i64 0 ∧ 4 ≤ k) ∨ (s = .int .i64 (gat1 n) ∧ u = .int .i64 1 ∧ 3 ≤ k) ∨ (s = .int .i64 (gat2 n) ∧ u = .int .i64 2 ∧ 2 ≤ k) ∨ (s = .int .i64 (gat3 n) ∧ u = .int .i64 3 ∧ 1 ≤ k) ∨ (s = .int .i64 (gat n) ∧ u = .int .i64 4)) ∧ w = wr)
  case atStart => exact ⟨.inl ⟨rfl, rfl, by omega⟩, rfl⟩
  case round =>
    obtain ⟨h, rfl⟩ := hrel
    rcases h with ⟨rfl, rfl, hk⟩ | ⟨rfl, rfl, hk⟩ | ⟨rfl, rfl, hk⟩ | ⟨rfl, rfl, hk⟩ | ⟨rfl, rfl⟩
    · go_wp2
      go_roundg 3
      case measure => omega
      case rel => exact ⟨.inr (.inl ⟨by first | rfl | (simp only [gat1, Int.ediv_one]), rfl, by omega⟩), rfl⟩
    · go_wp2
      go_roundg 2
      case measure => omega
      case rel => exact ⟨.inr (.inr (.inl ⟨rfl, rfl, by omega⟩)), rfl⟩
    · go_wp2
      go_roundg 1
      case measure => omega
      case rel => exact ⟨.inr (.inr (.inr (.inl ⟨rfl, rfl, by omega⟩))), rfl⟩
    · go_wp2
      go_roundg 0
      case measure => omega
      case rel => exact ⟨.inr (.inr (.inr (.inr ⟨rfl, rfl⟩))), rfl⟩
    · go_wp2
      go_ret
      exact ⟨rfl, rfl⟩

theorem length_two (r : Int) (w : World) (hr : r = 1 ∨ r = 2 ∨ r = 3) :
    Calls Try.prog 60 #[.agg #[.int .i64 1, .int .i64 2], .int .i64 r] w fun e w' => e = .returned (.int .i64 (if r = 1 then 4 else 8)) ∧ Below w.heap.size w w' := by
  rcases hr with rfl | rfl | rfl
  all_goals
    go_enter Try.func60, Try.ntmps60
    go_wp2
    go_ret
    exact ⟨rfl, below_alloc _ _⟩

theorem before_two (w : World) :
    Calls Try.prog 27 #[.agg #[.int .i64 1, .int .i64 2], .int .i64 3] w fun e w' => e = .returned (.int .i64 12) ∧ Below w.heap.size w w' := by
  have HL := Lib.hid length_two
  have hB0 := below_alloc w (.cells #[.int .i64 1, .int .i64 2] 54)
  go_enter Try.func27, Try.ntmps27
  go_wp2
  go_loopg [5, 6] 2 (fun k s t wr => ((s = .int .i64 0 ∧ t = .int .i64 1 ∧ 2 ≤ k) ∨ (s = .int .i64 4 ∧ t = .int .i64 2 ∧ 1 ≤ k) ∨ (s = .int .i64 12 ∧ t = .int .i64 3)) ∧ Below (w.alloc (.cells #[.int .i64 1, .int .i64 2] 54)).heap.size (w.alloc (.cells #[.int .i64 1, .int .i64 2] 54)) wr)
  case atStart => exact ⟨.inl ⟨rfl, rfl, by omega⟩, Below.refl _ _⟩
  case round =>
    obtain ⟨h, hB⟩ := hrel
    obtain ⟨⟨c0, c1⟩, f0, f1⟩ := ((Box.new w 54 #[.int .i64 1, .int .i64 2]).on hB).two
    rcases h with ⟨rfl, rfl, hk⟩ | ⟨rfl, rfl, hk⟩ | ⟨rfl, rfl⟩
    · go_wp2_with (go_at_call 60; refine (HL.out 1 _ (by simp)).mono ?_; rintro e w1 ⟨rfl, h1⟩)
      go_roundg 1
      case measure => omega
      case rel => exact ⟨.inr (.inl ⟨rfl, rfl, by omega⟩), hB.trs h1⟩
    · go_wp2_with (go_at_call 60; refine (HL.out 2 _ (by simp)).mono ?_; rintro e w1 ⟨rfl, h1⟩)
      go_roundg 0
      case measure => omega
      case rel => exact ⟨.inr (.inr ⟨rfl, rfl⟩), hB.trs h1⟩
    · go_wp2
      go_ret
      exact ⟨rfl, hB0.trs hB⟩

theorem Box.three {w : World} {g : Nat} {t : TypeId} {x y z : Value} (h : Box w g t #[x, y, z]) :
    (w.cell? ⟨g, 0, none⟩ = some x ∧ w.cell? ⟨g, 1, none⟩ = some y ∧ w.cell? ⟨g, 2, none⟩ = some z) ∧ w.frozen? ⟨g, 0, none⟩ = false ∧ w.frozen? ⟨g, 1, none⟩ = false ∧ w.frozen? ⟨g, 2, none⟩ = false :=
  ⟨⟨h.cell 0, h.cell 1, h.cell 2⟩, h.frozen 0, h.frozen 1, h.frozen 2⟩

set_option maxRecDepth 100000 in
set_option maxHeartbeats 1000000 in
/-- the spot of a pixel: its face, and what gather tells of its place there -/
theorem spot_gen (k s p q : Int) (w : World) (hq : IntKind.i64.wrap (s * s) = q) (hs2 : wrap64 (s * s) = q) (hq0 : 0 < q) (hq1 : q ≤ 1000) (hp0 : 0 ≤ p) (hp1 : p ≤ 10000) :
    Calls Try.prog 31 #[.agg #[.int .i64 k, .int .i64 s], .int .i64 p] w fun e w' => e = .returned (.agg #[.int .i64 (p / q), .int .i64 (gat (p % q)), .int .i64 (gat (p % q / 2))]) ∧ Below w.heap.size w w' := by
  have hbx := Box.new (w.alloc (.cells #[.int .i64 k, .int .i64 s] 54)) 60 #[.int .i64 0, .int .i64 0, .int .i64 0]
  have hbs := (Box.new w 54 #[.int .i64 k, .int .i64 s]).alloc (.cells #[.int .i64 0, .int .i64 0, .int .i64 0] 60)
  rw [World.size_alloc] at hbx
  obtain ⟨⟨c0, c1⟩, g0, g1⟩ := hbs.two
  obtain ⟨⟨d0, d1, d2⟩, f0, f1, f2⟩ := hbx.three
  have GA := Lib.hid gather_any
  have hqn : ¬ q = 0 := by omega
  have hqn2 : (q == 0) = false := by simpa using hqn
  have m1 := Int.emod_nonneg p (by omega : q ≠ 0)
  have m2 := Int.emod_lt_of_pos p hq0
  have m3 : 0 ≤ p / q := Int.ediv_nonneg hp0 (by omega)
  have m4 : p / q ≤ p := Int.ediv_le_self _ hp0
  have t1 : IntKind.i64.wrap (p / q) = p / q := IntWalk.i64_in _ (by omega)
  have t2 : wrap64 (p / q) = p / q := IntWalk.wrap64_in _ (by omega)
  have t3 : IntKind.i64.wrap (p % q) = p % q := IntWalk.i64_in _ (by omega)
  have t4 : wrap64 (p % q) = p % q := IntWalk.wrap64_in _ (by omega)
  have u1 : p.tdiv q = p / q := Int.tdiv_eq_ediv_of_nonneg hp0
  have u2 : (p % q).tdiv 2 = p % q / 2 := Int.tdiv_eq_ediv_of_nonneg m1
  have t5 : IntKind.i64.wrap (p % q / 2) = p % q / 2 := IntWalk.i64_in _ (by omega)
  have t6 : wrap64 (p % q / 2) = p % q / 2 := IntWalk.wrap64_in _ (by omega)
  have hbx := Lib.hid hbx
  clear hbs
  go_enter Try.func31, Try.ntmps31
  go_wp2_with fail
  go_region_held3 (fun w' => w'.cell? ⟨w.heap.size, 1, none⟩ = some (.int .i64 s) ∧ w'.frozen? ⟨w.heap.size + 1, 0, none⟩ = false ∧ w'.frozen? ⟨w.heap.size + 1, 1, none⟩ = false ∧ w'.frozen? ⟨w.heap.size + 1, 2, none⟩ = false) (go_keep) ((go_at_call 62; refine (GA.out _ _).mono ?_; rintro e w' ⟨rfl, rfl⟩))
  have hby := Box.new (w.alloc (.cells #[.int .i64 k, .int .i64 s] 54)) 60 #[.int .i64 (p / q), .int .i64 (gat (p % q)), .int .i64 (gat (p % q / 2))]
  rw [World.size_alloc] at hby
  have HBY := Lib.hid hby; clear hby
  all_goals
    go_wp2_with fail
    have hbz := Box.keep HBY.out (Below.drewsN (Below.refl (w.heap.size + 1 + 1) _) 1) (by omega)
    have e0 := hbz.cell 0
    have e1 := hbz.cell 1
    have e2 := hbz.cell 2
    simp only [World.drewN] at e0 e1 e2
    refine bodyPost_ret (v := .agg #[.int .i64 (p / q), .int .i64 (gat (p % q)), .int .i64 (gat (p % q / 2))]) (by simp [results, Try.results31, go_sem, e0, e1, e2]) rfl ⟨rfl, ((below_alloc w _).trs (below_alloc _ _)).drewsN 1⟩

theorem spot_zero (w : World) :
    Calls Try.prog 31 #[.agg #[.int .i64 1, .int .i64 2], .int .i64 0] w fun e w' => e = .returned (.agg #[.int .i64 0, .int .i64 0, .int .i64 0]) ∧ Below w.heap.size w w' := by
  have h := spot_gen 1 2 0 4 w (by decide) (IntWalk.wrap64_in _ (by omega)) (by decide) (by decide) (by decide) (by decide)
  rw [show gat (0 % 4) = 0 by decide +kernel, show gat (0 % 4 / 2) = 0 by decide +kernel] at h
  exact h

set_option maxRecDepth 100000 in
theorem ring_one (w : World) :
    Calls Try.prog 38 #[.agg #[.int .i64 1, .int .i64 2], .int .i64 0] w fun e w' => e = .returned (.tuple #[.int .i64 3, .int .i64 2]) ∧ Below w.heap.size w w' := by
  have HS := Lib.hid spot_zero
  have HL := Lib.hid length_two
  have hb3 : btw 2 3 6 = true := by decide
  have HB := Lib.hid (fun W => between_any 2 3 6 W)
  rw [hb3] at HB
  clear hb3
  go_enter Try.func38, Try.ntmps38
  go_wp2_with (first
    | (go_at_call 31; refine (HS.out _).mono ?_; rintro e w1 ⟨rfl, h1⟩; have hbs := ((Box.new w 54 #[.int .i64 1, .int .i64 2]).on h1).alloc (.cells #[.int .i64 0, .int .i64 0, .int .i64 0] 60); have hbp := Box.new w1 60 #[.int .i64 0, .int .i64 0, .int .i64 0]; obtain ⟨⟨c0, c1⟩, -, -⟩ := hbs.two; obtain ⟨⟨d0, d1, d2⟩, -, -, -⟩ := hbp.three; have HBS := Lib.hid hbs; have HBP := Lib.hid hbp; clear hbs hbp)
    | (go_at_call 60; refine (HL.out 3 _ (by simp)).mono ?_; rintro e w2 ⟨rfl, h2⟩; have hbs := HBS.out.on h2; have hbp := HBP.out.on h2; clear c0 c1 d0 d1 d2; obtain ⟨⟨c0, c1⟩, -, -⟩ := hbs.two; obtain ⟨⟨d0, d1, d2⟩, -, -, -⟩ := hbp.three; clear hbs hbp)
    | (go_at_call 34; refine (HB.out _).mono ?_; rintro e w' ⟨rfl, rfl⟩))
  go_ret2
  exact ⟨rfl, (((below_alloc w _).trs h1).trs (below_alloc _ _)).trs h2⟩

theorem number_one (w : World) :
    Calls Try.prog 25 #[.agg #[.int .i64 1, .int .i64 2], .int .i64 0] w fun e w' => e = .returned (.int .i64 13) ∧ Below w.heap.size w w' := by
  have HR := Lib.hid ring_one
  have HB := Lib.hid before_two
  go_enter Try.func25, Try.ntmps25
  go_wp2_with (first
    | (go_at_call 38; refine (HR.out _).mono ?_; rintro e w1 ⟨rfl, h1⟩; have hbs := (Box.new w 54 #[.int .i64 1, .int .i64 2]).on h1; obtain ⟨⟨c0, c1⟩, -, -⟩ := hbs.two; clear hbs)
    | (go_at_call 27; refine (HB.out _).mono ?_; rintro e w2 ⟨rfl, h2⟩))
  go_ret
  exact ⟨rfl, ((below_alloc w _).trs h1).trs h2⟩

theorem ring1_one (g : Nat) (w : World) (h1 : w.cell? ⟨g, 0, none⟩ = some (.int .i64 0)) (l1 : g < w.heap.size) :
    Calls Try.prog 24 #[.agg #[.int .i64 1, .int .i64 2], .pointer (some ⟨g, 0, none⟩)] w fun e w' => ∃ v, e = .returned v ∧ v = .int .i64 13 ∧ Below w.heap.size w w' := by
  have hb := below_alloc w (.cells #[.int .i64 1, .int .i64 2] 54)
  rw [← hb.cell l1] at h1
  have HN := Lib.hid number_one
  go_enter Try.func24, Try.ntmps24
  go_wp2_with (go_at_call 25; refine (HN.out _).mono ?_; rintro e w1 ⟨rfl, h1⟩)
  go_ret
  exact ⟨_, rfl, rfl, hb.trs ‹_›⟩

theorem Ring_one (w : World) :
    Calls Try.prog 7 #[.int .i64 1, .int .i64 0] w fun e w' => e = .returned (.tuple #[.int .i64 13, .int .i64 0]) ∧ Below w.heap.size w w' := by
  have hB0 := below_alloc w (.cells #[.int .i64 0] 3)
  have hc := cell_one w (.int .i64 0) 3
  have HF := ofInt_any 1 0 24 #[.pointer (some ⟨w.heap.size, 0, none⟩)] (fun v _ => v = .int .i64 13) (w.alloc (.cells #[.int .i64 0] 3)) (enters_of Try.func24 (by kernel_rfl) rfl)
    (fun _ W hW => by
      have hs := hW.size
      simp only [World.size_alloc] at hs
      have := ring1_one w.heap.size W (by rw [hW.cell (by simp)]; exact hc) (by omega)
      exact this)
  have hok : okP 1 0 = true := by decide
  simp only [hok, if_true] at HF
  have HG := Lib.hid HF; clear HF
  go_enter Try.func7, Try.ntmps7
  go_wp2_with (go_at_call 23; refine HG.out.mono ?_; rintro e w1 ⟨⟨v, rfl, rfl⟩, h1⟩)
  go_ret2
  exact ⟨rfl, hB0.trs h1⟩

theorem Sane_any (w : World) : Calls Try.prog 6 #[] w fun e w' => e = .returned (.bool true) ∧ Below w.heap.size w w' := by
  have HR := Lib.hid Ring_one
  go_enter Try.func6, Try.ntmps6
  go_wp2_with (go_at_call 7; refine (HR.out _).mono ?_; rintro e w1 ⟨rfl, h1⟩)
  go_ret
  exact ⟨rfl, h1⟩
end Go.Proofs.Ytgbpmleipdecgaa
