/- Walks over package sky: Place and RingOf. -/
import Derived.Test.YtolgpigdioanoaaSkyU
namespace Go.Proofs.Ytolgpigdioanoaa
set_option linter.unusedSimpArgs false
set_option linter.unusedVariables false
open Go.RowKit

theorem place1_any (k p : Int) (g : Nat) (w : World) (h : okP k p = true) (hc : w.cell? ⟨g, 0, none⟩ = some (.int .i64 p)) (hg : g < w.heap.size) :
    Calls Try.prog 88 #[.agg #[.int .i64 k, .int .i64 (sd k)], .pointer (some ⟨g, 0, none⟩)] w fun e w' => ∃ v, e = .returned v ∧ v = .agg #[.int .i64 (fF k p), .int .i64 (fX k p), .int .i64 (fY k p)] ∧ Below w.heap.size w w' := by
  have HS := Lib.hid (fun W => spot_any k p W h)
  clear h
  generalize fF k p = a at *
  generalize fX k p = b at *
  generalize fY k p = c at *
  generalize sd k = s at *
  have hb := (below_alloc w (.cells #[.int .i64 k, .int .i64 s] 68)).trs (below_alloc _ (.cells #[.int .i64 0, .int .i64 0, .int .i64 0] 77))
  rw [← hb.cell hg] at hc
  have hres := Box.new (w.alloc (.cells #[.int .i64 k, .int .i64 s] 68)) 77 #[.int .i64 0, .int .i64 0, .int .i64 0]
  rw [World.size_alloc] at hres
  have HRES := Lib.hid hres; clear hres
  go_enter Try.func88, Try.ntmps88
  go_wp2_with (go_at_call 89; refine (HS.out _).mono ?_; rintro e w1 ⟨rfl, h1⟩; have hbx := HRES.out.on h1; obtain ⟨⟨x0, x1, x2⟩, x3, x4, x5⟩ := hbx.three; have HX := Lib.hid hbx; clear hbx)
  obtain ⟨e0, e1, e2⟩ := HX.out.three_set (.int .i64 a) (.int .i64 b) (.int .i64 c)
  refine bodyPost_ret (v := .agg #[.int .i64 a, .int .i64 b, .int .i64 c]) (by simp [results, Try.results88, go_sem, e0, e1, e2]) rfl ⟨_, rfl, rfl, (((hb.trs h1).setCell (p := ⟨_, _, none⟩) (by simp) _).setCell (p := ⟨_, _, none⟩) (by simp) _).setCell (p := ⟨_, _, none⟩) (by simp) _⟩

theorem ringOf1_any (k p : Int) (g : Nat) (w : World) (h : okP k p = true) (hc : w.cell? ⟨g, 0, none⟩ = some (.int .i64 p)) (hg : g < w.heap.size) :
    Calls Try.prog 95 #[.agg #[.int .i64 k, .int .i64 (sd k)], .pointer (some ⟨g, 0, none⟩)] w fun e w' => ∃ v, e = .returned v ∧ v = .agg #[.int .i64 (pR k p), .int .i64 (pP k p)] ∧ Below w.heap.size w w' := by
  have HS : Hid (∀ W, Calls Try.prog 96 #[.agg #[.int .i64 k, .int .i64 (sd k)], .int .i64 p] W fun e w' => e = .returned (.tuple #[.int .i64 (pR k p), .int .i64 (pP k p)]) ∧ Below W.heap.size W w') := Lib.hid (fun W => ring_any k p W h)
  clear h
  generalize pR k p = a at *
  generalize pP k p = b at *
  generalize sd k = s at *
  have hb := (below_alloc w (.cells #[.int .i64 k, .int .i64 s] 68)).trs (below_alloc _ (.cells #[.int .i64 0, .int .i64 0] 31))
  rw [← hb.cell hg] at hc
  have hres := Box.new (w.alloc (.cells #[.int .i64 k, .int .i64 s] 68)) 31 #[.int .i64 0, .int .i64 0]
  rw [World.size_alloc] at hres
  have HRES := Lib.hid hres; clear hres
  go_enter Try.func95, Try.ntmps95
  go_wp2_with (go_at_call 96; refine (HS.out _).mono ?_; rintro e w1 ⟨rfl, h1⟩; have hbx := HRES.out.on h1; obtain ⟨⟨x0, x1⟩, x2, x3⟩ := hbx.two; have HX := Lib.hid hbx; clear hbx)
  obtain ⟨e0, e1, e2⟩ := HX.out.two_set (.int .i64 a) (.int .i64 b)
  refine bodyPost_ret (v := .agg #[.int .i64 a, .int .i64 b]) (by simp [results, Try.results95, go_sem, e0, e1, e2]) rfl ⟨_, rfl, rfl, ((hb.trs h1).setCell (p := ⟨_, _, none⟩) (by simp) _).setCell (p := ⟨_, _, none⟩) (by simp) _⟩

def PlaceV (k p : Int) : Value := if okP k p then .tuple #[.int .i64 (fF k p), .int .i64 (fX k p), .int .i64 (fY k p), .int .i64 0] else .tuple #[.int .i64 0, .int .i64 0, .int .i64 0, .int .i64 2]
def RingOfV (k p : Int) : Value := if okP k p then .tuple #[.int .i64 (pR k p), .int .i64 (pP k p), .int .i64 0] else .tuple #[.int .i64 0, .int .i64 0, .int .i64 2]

theorem ofSpot_place (k p : Int) (w : World) : ∃ a b c er : Int, PlaceV k p = .tuple #[.int .i64 a, .int .i64 b, .int .i64 c, .int .i64 er] ∧ Calls Try.prog 87 #[.int .i64 k, .int .i64 p, .func (.func 88) #[] #[.pointer (some ⟨w.heap.size, 0, none⟩)]] (w.alloc (.cells #[.int .i64 p] 3)) fun e w' => e = .returned (.tuple #[.agg #[.int .i64 a, .int .i64 b, .int .i64 c], .int .i64 er]) ∧ Below (w.alloc (.cells #[.int .i64 p] 3)).heap.size (w.alloc (.cells #[.int .i64 p] 3)) w' := by
  have hc := cell_one w (.int .i64 p) 3
  have HF := ofSpot_any k p (fF k p) (fX k p) (fY k p) 88 #[.pointer (some ⟨w.heap.size, 0, none⟩)] (w.alloc (.cells #[.int .i64 p] 3)) (enters_of Try.func88 (by kernel_rfl) rfl)
    (fun hok W hW => by
      have hs := hW.size
      simp only [World.size_alloc] at hs
      exact place1_any k p w.heap.size W hok (by rw [hW.cell (by simp)]; exact hc) (by omega))
  unfold PlaceV
  cases hok : okP k p
  · rw [hok] at HF; exact ⟨0, 0, 0, 2, rfl, HF⟩
  · rw [hok] at HF; exact ⟨_, _, _, 0, rfl, HF⟩
theorem ofPair_ringOf (k p : Int) (w : World) : ∃ a b er : Int, RingOfV k p = .tuple #[.int .i64 a, .int .i64 b, .int .i64 er] ∧ Calls Try.prog 94 #[.int .i64 k, .int .i64 p, .func (.func 95) #[] #[.pointer (some ⟨w.heap.size, 0, none⟩)]] (w.alloc (.cells #[.int .i64 p] 3)) fun e w' => e = .returned (.tuple #[.agg #[.int .i64 a, .int .i64 b], .int .i64 er]) ∧ Below (w.alloc (.cells #[.int .i64 p] 3)).heap.size (w.alloc (.cells #[.int .i64 p] 3)) w' := by
  have hc := cell_one w (.int .i64 p) 3
  have HF := ofPair_any k p (pR k p) (pP k p) 95 #[.pointer (some ⟨w.heap.size, 0, none⟩)] (w.alloc (.cells #[.int .i64 p] 3)) (enters_of Try.func95 (by kernel_rfl) rfl)
    (fun hok W hW => by
      have hs := hW.size
      simp only [World.size_alloc] at hs
      exact ringOf1_any k p w.heap.size W hok (by rw [hW.cell (by simp)]; exact hc) (by omega))
  unfold RingOfV
  cases hok : okP k p
  · rw [hok] at HF; exact ⟨0, 0, 2, rfl, HF⟩
  · rw [hok] at HF; exact ⟨_, _, 0, rfl, HF⟩

theorem Place_any (k p : Int) (w : World) :
    Calls Try.prog 31 #[.int .i64 k, .int .i64 p] w fun e w' => e = .returned (PlaceV k p) ∧ Below w.heap.size w w' := by
  have hB0 := below_alloc w (.cells #[.int .i64 p] 3)
  obtain ⟨a, b, c, er, hv, HF⟩ := ofSpot_place k p w
  rw [hv]
  have HG := Lib.hid HF; clear HF hv
  go_enter Try.func31, Try.ntmps31
  go_wp2_with (go_at_call 87; refine HG.out.mono ?_; rintro e w1 ⟨rfl, h1⟩; have hbx := Box.new w1 77 #[.int .i64 a, .int .i64 b, .int .i64 c]; obtain ⟨⟨x0, x1, x2⟩, x3, x4, x5⟩ := hbx.three; clear hbx)
  go_quiet (fail)
  go_wp2_with fail
  refine bodyPost_ret (v := .tuple #[.int .i64 a, .int .i64 b, .int .i64 c, .int .i64 er]) (by simp [results, Try.results31, go_sem]) rfl ⟨rfl, ((hB0.trs h1).trs (below_alloc _ _)).drewsN _⟩

theorem RingOf_any (k p : Int) (w : World) :
    Calls Try.prog 37 #[.int .i64 k, .int .i64 p] w fun e w' => e = .returned (RingOfV k p) ∧ Below w.heap.size w w' := by
  have hB0 := below_alloc w (.cells #[.int .i64 p] 3)
  obtain ⟨a, b, er, hv, HF⟩ := ofPair_ringOf k p w
  rw [hv]
  have HG := Lib.hid HF; clear HF hv
  go_enter Try.func37, Try.ntmps37
  go_wp2_with (go_at_call 94; refine HG.out.mono ?_; rintro e w1 ⟨rfl, h1⟩; have hbx := Box.new w1 31 #[.int .i64 a, .int .i64 b]; obtain ⟨⟨x0, x1⟩, x2, x3⟩ := hbx.two; clear hbx)
  go_quiet (fail)
  go_wp2_with fail
  refine bodyPost_ret (v := .tuple #[.int .i64 a, .int .i64 b, .int .i64 er]) (by simp [results, Try.results37, go_sem]) rfl ⟨rfl, ((hB0.trs h1).trs (below_alloc _ _)).drewsN _⟩
end Go.Proofs.Ytolgpigdioanoaa
