/- SkyU SkyV SkyG SkyW SkyX SkyY -/
import Derived.Test.YtgbpmleipdecgaaSkyS
import Derived.Test.YtgbpmleipdecgaaSkyF
/- Walks over package sky: what is told of a pixel by a spot, and by a pair. -/
namespace Go.Proofs.Ytgbpmleipdecgaa
set_option linter.unusedSimpArgs false
set_option linter.unusedVariables false
open Go.RowKit

theorem Box.three_set {w : World} {g : Nat} {t : TypeId} {x y z : Value} (h : Box w g t #[x, y, z]) (a b c : Value) :
    (((w.setCell ⟨g, 0, none⟩ a).setCell ⟨g, 1, none⟩ b).setCell ⟨g, 2, none⟩ c).cell? ⟨g, 0, none⟩ = some a ∧ (((w.setCell ⟨g, 0, none⟩ a).setCell ⟨g, 1, none⟩ b).setCell ⟨g, 2, none⟩ c).cell? ⟨g, 1, none⟩ = some b ∧ (((w.setCell ⟨g, 0, none⟩ a).setCell ⟨g, 1, none⟩ b).setCell ⟨g, 2, none⟩ c).cell? ⟨g, 2, none⟩ = some c :=
  ⟨(((h.set_ 0 a).set_ 1 b).set_ 2 c).cell 0, (((h.set_ 0 a).set_ 1 b).set_ 2 c).cell 1, (((h.set_ 0 a).set_ 1 b).set_ 2 c).cell 2⟩
theorem ofSpot1_any (k p : Int) (g : Nat) (w : World) (hk : btw 0 k 4 = true) (hc : w.cell? ⟨g, 0, none⟩ = some (.int .i64 p)) (hg : g < w.heap.size) :
    Calls Try.prog 61 #[.agg #[.int .i64 k, .int .i64 (sd k)], .pointer (some ⟨g, 0, none⟩)] w fun e w' => e = .returned (.bool (btw 0 p (px k - 1))) ∧ Below w.heap.size w w' := by
  have HI := Lib.hid (fun W => is_any k p W hk)
  clear hk
  rw [← (below_alloc w (.cells #[.int .i64 k, .int .i64 (sd k)] 54)).cell hg] at hc
  generalize sd k = s at *
  go_enter Try.func61, Try.ntmps61
  go_wp2_with (go_at_call 59; refine (HI.out _).mono ?_; rintro e w1 ⟨rfl, h1⟩)
  go_ret
  exact ⟨rfl, (below_alloc _ _).trs h1⟩
theorem ofPair1_any (k p : Int) (g : Nat) (w : World) (hk : btw 0 k 4 = true) (hc : w.cell? ⟨g, 0, none⟩ = some (.int .i64 p)) (hg : g < w.heap.size) :
    Calls Try.prog 64 #[.agg #[.int .i64 k, .int .i64 (sd k)], .pointer (some ⟨g, 0, none⟩)] w fun e w' => e = .returned (.bool (btw 0 p (px k - 1))) ∧ Below w.heap.size w w' := by
  have HI := Lib.hid (fun W => is_any k p W hk)
  clear hk
  rw [← (below_alloc w (.cells #[.int .i64 k, .int .i64 (sd k)] 54)).cell hg] at hc
  generalize sd k = s at *
  go_enter Try.func64, Try.ntmps64
  go_wp2_with (go_at_call 59; refine (HI.out _).mono ?_; rintro e w1 ⟨rfl, h1⟩)
  go_ret
  exact ⟨rfl, (below_alloc _ _).trs h1⟩

theorem ofSpot_any (k p a b c : Int) (g : Nat) (lb : Array Value) (w : World) (eg : ∀ args w, (callFunc g args).run Try.prog w = .ok (.enter g args) w) (ht : okP k p = true → TellS g lb k (fun v _ => v = .agg #[.int .i64 a, .int .i64 b, .int .i64 c]) w) :
    Calls Try.prog 29 #[.int .i64 k, .int .i64 p, .func (.func g) #[] lb] w fun e w' => e = .returned (if okP k p then .tuple #[.agg #[.int .i64 a, .int .i64 b, .int .i64 c], .int .i64 0] else .tuple #[.agg #[.int .i64 0, .int .i64 0, .int .i64 0], .int .i64 2]) ∧ Below w.heap.size w w' := by
  have HB0 := (below_alloc w (.cells #[.int .i64 p] 3)).trs (below_alloc _ (.cells #[.int .i64 0, .int .i64 0, .int .i64 0] 60))
  have hg : w.heap.size < ((w.alloc (.cells #[.int .i64 p] 3)).alloc (.cells #[.int .i64 0, .int .i64 0, .int .i64 0] 60)).heap.size := by simp; omega
  have hc := ((Box.new w 3 #[.int .i64 p]).alloc (.cells #[.int .i64 0, .int .i64 0, .int .i64 0] 60)).cell 0
  have hres := Box.new (w.alloc (.cells #[.int .i64 p] 3)) 60 #[.int .i64 0, .int .i64 0, .int .i64 0]
  rw [World.size_alloc] at hres
  have HRES := Lib.hid hres; clear hres
  cases hk : btw 0 k 4
  · have hn : okP k p = false := by rw [okP, hk]; rfl
    have HA := Lib.hid (fun f W => asked_no k f W hk)
    rw [hn]
    clear ht hk hn hc
    go_enter Try.func29, Try.ntmps29
    go_wp2_with (go_at_call 32; refine (HA.out _ _).mono ?_; rintro e w1 ⟨rfl, h1⟩; have hbx := ((HRES.out.on h1).alloc (.cells #[.int .i64 0, .int .i64 0] 54)).alloc (.cells #[.int .i64 0, .int .i64 0, .int .i64 0] 60); obtain ⟨⟨x0, x1, x2⟩, x3, x4, x5⟩ := hbx.three; have HX := Lib.hid hbx; clear hbx)
    obtain ⟨e0, e1, e2⟩ := HX.out.three_set (.int .i64 0) (.int .i64 0) (.int .i64 0)
    refine bodyPost_ret (v := .tuple #[.agg #[.int .i64 0, .int .i64 0, .int .i64 0], .int .i64 2]) (by simp [results, Try.results29, go_sem, e0, e1, e2]) rfl ⟨rfl, (((((HB0.trs h1).trs (below_alloc _ _)).trs (below_alloc _ _)).setCell (p := ⟨_, _, none⟩) (by simp) _).setCell (p := ⟨_, _, none⟩) (by simp) _).setCell (p := ⟨_, _, none⟩) (by simp) _⟩
  · have HQ := Lib.hid (fun W (hW : Below ((w.alloc (.cells #[.int .i64 p] 3)).alloc (.cells #[.int .i64 0, .int .i64 0, .int .i64 0] 60)).heap.size ((w.alloc (.cells #[.int .i64 p] 3)).alloc (.cells #[.int .i64 0, .int .i64 0, .int .i64 0] 60)) W) => ofSpot1_any k p w.heap.size W hk (by rw [hW.cell hg]; exact hc) (Nat.lt_of_lt_of_le hg hW.size))
    have HA := Lib.hid (fun W (h : PredS 61 #[.pointer (some ⟨w.heap.size, 0, none⟩)] k (btw 0 p (px k - 1)) W) => asked_is k 61 #[.pointer (some ⟨w.heap.size, 0, none⟩)] (btw 0 p (px k - 1)) W hk (enters_of Try.func61 (by kernel_rfl) rfl) h)
    have ho : okP k p = btw 0 p (px k - 1) := by rw [okP, hk]; rfl
    have HT := Lib.hid ht; clear ht
    unfold TellS at HT
    unfold PredS at HA
    rw [ho] at HT ⊢
    cases hr : btw 0 p (px k - 1)
    · rw [hr] at HT HA HQ
      clear hr ho hk hc
      generalize sd k = s at *
      go_enter Try.func29, Try.ntmps29
      go_wp2_with (go_at_call 32; refine (HA.out _ (fun W hW => HQ.out W hW)).mono ?_; rintro e w1 ⟨rfl, h1⟩; have hbx := ((HRES.out.on h1).alloc (.cells #[.int .i64 0, .int .i64 0] 54)).alloc (.cells #[.int .i64 0, .int .i64 0, .int .i64 0] 60); obtain ⟨⟨x0, x1, x2⟩, x3, x4, x5⟩ := hbx.three; have HX := Lib.hid hbx; clear hbx)
      obtain ⟨e0, e1, e2⟩ := HX.out.three_set (.int .i64 0) (.int .i64 0) (.int .i64 0)
      refine bodyPost_ret (v := .tuple #[.agg #[.int .i64 0, .int .i64 0, .int .i64 0], .int .i64 2]) (by simp [results, Try.results29, go_sem, e0, e1, e2]) rfl ⟨rfl, (((((HB0.trs h1).trs (below_alloc _ _)).trs (below_alloc _ _)).setCell (p := ⟨_, _, none⟩) (by simp) _).setCell (p := ⟨_, _, none⟩) (by simp) _).setCell (p := ⟨_, _, none⟩) (by simp) _⟩
    · rw [hr] at HT HA HQ
      clear hr ho hk hc
      generalize sd k = s at *
      go_enter Try.func29, Try.ntmps29
      go_wp2_with (first
        | (go_at_call 32; refine (HA.out _ (fun W hW => HQ.out W hW)).mono ?_; rintro e w1 ⟨rfl, h1⟩)
        | (go_at_fn g; refine (HT.out (by simp) _ ((HB0.trs h1).trs (below_alloc _ _))).mono ?_; rintro e w2 ⟨v, rfl, rfl, h2⟩; have hbx := ((HRES.out.on h1).alloc (.cells #[.int .i64 k, .int .i64 s] 54)).on h2; obtain ⟨⟨x0, x1, x2⟩, x3, x4, x5⟩ := hbx.three; have HX := Lib.hid hbx; clear hbx))
      obtain ⟨e0, e1, e2⟩ := HX.out.three_set (.int .i64 a) (.int .i64 b) (.int .i64 c)
      refine bodyPost_ret (v := .tuple #[.agg #[.int .i64 a, .int .i64 b, .int .i64 c], .int .i64 0]) (by simp [results, Try.results29, go_sem, e0, e1, e2]) rfl ⟨rfl, (((((HB0.trs h1).trs (below_alloc _ _)).trs h2).setCell (p := ⟨_, _, none⟩) (by simp) _).setCell (p := ⟨_, _, none⟩) (by simp) _).setCell (p := ⟨_, _, none⟩) (by simp) _⟩

theorem ofPair_any (k p a b : Int) (g : Nat) (lb : Array Value) (w : World) (eg : ∀ args w, (callFunc g args).run Try.prog w = .ok (.enter g args) w) (ht : okP k p = true → TellS g lb k (fun v _ => v = .agg #[.int .i64 a, .int .i64 b]) w) :
    Calls Try.prog 36 #[.int .i64 k, .int .i64 p, .func (.func g) #[] lb] w fun e w' => e = .returned (if okP k p then .tuple #[.agg #[.int .i64 a, .int .i64 b], .int .i64 0] else .tuple #[.agg #[.int .i64 0, .int .i64 0], .int .i64 2]) ∧ Below w.heap.size w w' := by
  have HB0 := (below_alloc w (.cells #[.int .i64 p] 3)).trs (below_alloc _ (.cells #[.int .i64 0, .int .i64 0] 70))
  have hg : w.heap.size < ((w.alloc (.cells #[.int .i64 p] 3)).alloc (.cells #[.int .i64 0, .int .i64 0] 70)).heap.size := by simp; omega
  have hc := ((Box.new w 3 #[.int .i64 p]).alloc (.cells #[.int .i64 0, .int .i64 0] 70)).cell 0
  have hres := Box.new (w.alloc (.cells #[.int .i64 p] 3)) 70 #[.int .i64 0, .int .i64 0]
  rw [World.size_alloc] at hres
  have HRES := Lib.hid hres; clear hres
  cases hk : btw 0 k 4
  · have hn : okP k p = false := by rw [okP, hk]; rfl
    have HA := Lib.hid (fun f W => asked_no k f W hk)
    rw [hn]
    clear ht hk hn hc
    go_enter Try.func36, Try.ntmps36
    go_wp2_with (go_at_call 32; refine (HA.out _ _).mono ?_; rintro e w1 ⟨rfl, h1⟩; have hbx := ((HRES.out.on h1).alloc (.cells #[.int .i64 0, .int .i64 0] 54)).alloc (.cells #[.int .i64 0, .int .i64 0] 70); obtain ⟨⟨x0, x1⟩, x2, x3⟩ := hbx.two; have HX := Lib.hid hbx; clear hbx)
    obtain ⟨e0, e1, e2⟩ := HX.out.two_set (.int .i64 0) (.int .i64 0)
    refine bodyPost_ret (v := .tuple #[.agg #[.int .i64 0, .int .i64 0], .int .i64 2]) (by simp [results, Try.results36, go_sem, e0, e1, e2]) rfl ⟨rfl, ((((HB0.trs h1).trs (below_alloc _ _)).trs (below_alloc _ _)).setCell (p := ⟨_, _, none⟩) (by simp) _).setCell (p := ⟨_, _, none⟩) (by simp) _⟩
  · have HQ := Lib.hid (fun W (hW : Below ((w.alloc (.cells #[.int .i64 p] 3)).alloc (.cells #[.int .i64 0, .int .i64 0] 70)).heap.size ((w.alloc (.cells #[.int .i64 p] 3)).alloc (.cells #[.int .i64 0, .int .i64 0] 70)) W) => ofPair1_any k p w.heap.size W hk (by rw [hW.cell hg]; exact hc) (Nat.lt_of_lt_of_le hg hW.size))
    have HA := Lib.hid (fun W (h : PredS 64 #[.pointer (some ⟨w.heap.size, 0, none⟩)] k (btw 0 p (px k - 1)) W) => asked_is k 64 #[.pointer (some ⟨w.heap.size, 0, none⟩)] (btw 0 p (px k - 1)) W hk (enters_of Try.func64 (by kernel_rfl) rfl) h)
    have ho : okP k p = btw 0 p (px k - 1) := by rw [okP, hk]; rfl
    have HT := Lib.hid ht; clear ht
    unfold TellS at HT
    unfold PredS at HA
    rw [ho] at HT ⊢
    cases hr : btw 0 p (px k - 1)
    · rw [hr] at HT HA HQ
      clear hr ho hk hc
      generalize sd k = s at *
      go_enter Try.func36, Try.ntmps36
      go_wp2_with (go_at_call 32; refine (HA.out _ (fun W hW => HQ.out W hW)).mono ?_; rintro e w1 ⟨rfl, h1⟩; have hbx := ((HRES.out.on h1).alloc (.cells #[.int .i64 0, .int .i64 0] 54)).alloc (.cells #[.int .i64 0, .int .i64 0] 70); obtain ⟨⟨x0, x1⟩, x2, x3⟩ := hbx.two; have HX := Lib.hid hbx; clear hbx)
      obtain ⟨e0, e1, e2⟩ := HX.out.two_set (.int .i64 0) (.int .i64 0)
      refine bodyPost_ret (v := .tuple #[.agg #[.int .i64 0, .int .i64 0], .int .i64 2]) (by simp [results, Try.results36, go_sem, e0, e1, e2]) rfl ⟨rfl, ((((HB0.trs h1).trs (below_alloc _ _)).trs (below_alloc _ _)).setCell (p := ⟨_, _, none⟩) (by simp) _).setCell (p := ⟨_, _, none⟩) (by simp) _⟩
    · rw [hr] at HT HA HQ
      clear hr ho hk hc
      generalize sd k = s at *
      go_enter Try.func36, Try.ntmps36
      go_wp2_with (first
        | (go_at_call 32; refine (HA.out _ (fun W hW => HQ.out W hW)).mono ?_; rintro e w1 ⟨rfl, h1⟩)
        | (go_at_fn g; refine (HT.out (by simp) _ ((HB0.trs h1).trs (below_alloc _ _))).mono ?_; rintro e w2 ⟨v, rfl, rfl, h2⟩; have hbx := ((HRES.out.on h1).alloc (.cells #[.int .i64 k, .int .i64 s] 54)).on h2; obtain ⟨⟨x0, x1⟩, x2, x3⟩ := hbx.two; have HX := Lib.hid hbx; clear hbx))
      obtain ⟨e0, e1, e2⟩ := HX.out.two_set (.int .i64 a) (.int .i64 b)
      refine bodyPost_ret (v := .tuple #[.agg #[.int .i64 a, .int .i64 b], .int .i64 0]) (by simp [results, Try.results36, go_sem, e0, e1, e2]) rfl ⟨rfl, ((((HB0.trs h1).trs (below_alloc _ _)).trs h2).setCell (p := ⟨_, _, none⟩) (by simp) _).setCell (p := ⟨_, _, none⟩) (by simp) _⟩
end Go.Proofs.Ytgbpmleipdecgaa

/- Walks over package sky: Place and RingOf. -/
namespace Go.Proofs.Ytgbpmleipdecgaa
set_option linter.unusedSimpArgs false
set_option linter.unusedVariables false
open Go.RowKit

theorem place1_any (k p : Int) (g : Nat) (w : World) (h : okP k p = true) (hc : w.cell? ⟨g, 0, none⟩ = some (.int .i64 p)) (hg : g < w.heap.size) :
    Calls Try.prog 30 #[.agg #[.int .i64 k, .int .i64 (sd k)], .pointer (some ⟨g, 0, none⟩)] w fun e w' => ∃ v, e = .returned v ∧ v = .agg #[.int .i64 (fF k p), .int .i64 (fX k p), .int .i64 (fY k p)] ∧ Below w.heap.size w w' := by
  have HS := Lib.hid (fun W => spot_any k p W h)
  clear h
  generalize fF k p = a at *
  generalize fX k p = b at *
  generalize fY k p = c at *
  generalize sd k = s at *
  have hb := (below_alloc w (.cells #[.int .i64 k, .int .i64 s] 54)).trs (below_alloc _ (.cells #[.int .i64 0, .int .i64 0, .int .i64 0] 60))
  rw [← hb.cell hg] at hc
  have hres := Box.new (w.alloc (.cells #[.int .i64 k, .int .i64 s] 54)) 60 #[.int .i64 0, .int .i64 0, .int .i64 0]
  rw [World.size_alloc] at hres
  have HRES := Lib.hid hres; clear hres
  go_enter Try.func30, Try.ntmps30
  go_wp2_with (go_at_call 31; refine (HS.out _).mono ?_; rintro e w1 ⟨rfl, h1⟩; have hbx := HRES.out.on h1; obtain ⟨⟨x0, x1, x2⟩, x3, x4, x5⟩ := hbx.three; have HX := Lib.hid hbx; clear hbx)
  obtain ⟨e0, e1, e2⟩ := HX.out.three_set (.int .i64 a) (.int .i64 b) (.int .i64 c)
  refine bodyPost_ret (v := .agg #[.int .i64 a, .int .i64 b, .int .i64 c]) (by simp [results, Try.results30, go_sem, e0, e1, e2]) rfl ⟨_, rfl, rfl, (((hb.trs h1).setCell (p := ⟨_, _, none⟩) (by simp) _).setCell (p := ⟨_, _, none⟩) (by simp) _).setCell (p := ⟨_, _, none⟩) (by simp) _⟩

theorem ringOf1_any (k p : Int) (g : Nat) (w : World) (h : okP k p = true) (hc : w.cell? ⟨g, 0, none⟩ = some (.int .i64 p)) (hg : g < w.heap.size) :
    Calls Try.prog 37 #[.agg #[.int .i64 k, .int .i64 (sd k)], .pointer (some ⟨g, 0, none⟩)] w fun e w' => ∃ v, e = .returned v ∧ v = .agg #[.int .i64 (pR k p), .int .i64 (pP k p)] ∧ Below w.heap.size w w' := by
  have HS : Hid (∀ W, Calls Try.prog 38 #[.agg #[.int .i64 k, .int .i64 (sd k)], .int .i64 p] W fun e w' => e = .returned (.tuple #[.int .i64 (pR k p), .int .i64 (pP k p)]) ∧ Below W.heap.size W w') := Lib.hid (fun W => ring_any k p W h)
  clear h
  generalize pR k p = a at *
  generalize pP k p = b at *
  generalize sd k = s at *
  have hb := (below_alloc w (.cells #[.int .i64 k, .int .i64 s] 54)).trs (below_alloc _ (.cells #[.int .i64 0, .int .i64 0] 70))
  rw [← hb.cell hg] at hc
  have hres := Box.new (w.alloc (.cells #[.int .i64 k, .int .i64 s] 54)) 70 #[.int .i64 0, .int .i64 0]
  rw [World.size_alloc] at hres
  have HRES := Lib.hid hres; clear hres
  go_enter Try.func37, Try.ntmps37
  go_wp2_with (go_at_call 38; refine (HS.out _).mono ?_; rintro e w1 ⟨rfl, h1⟩; have hbx := HRES.out.on h1; obtain ⟨⟨x0, x1⟩, x2, x3⟩ := hbx.two; have HX := Lib.hid hbx; clear hbx)
  obtain ⟨e0, e1, e2⟩ := HX.out.two_set (.int .i64 a) (.int .i64 b)
  refine bodyPost_ret (v := .agg #[.int .i64 a, .int .i64 b]) (by simp [results, Try.results37, go_sem, e0, e1, e2]) rfl ⟨_, rfl, rfl, ((hb.trs h1).setCell (p := ⟨_, _, none⟩) (by simp) _).setCell (p := ⟨_, _, none⟩) (by simp) _⟩

def PlaceV (k p : Int) : Value := if okP k p then .tuple #[.int .i64 (fF k p), .int .i64 (fX k p), .int .i64 (fY k p), .int .i64 0] else .tuple #[.int .i64 0, .int .i64 0, .int .i64 0, .int .i64 2]
def RingOfV (k p : Int) : Value := if okP k p then .tuple #[.int .i64 (pR k p), .int .i64 (pP k p), .int .i64 0] else .tuple #[.int .i64 0, .int .i64 0, .int .i64 2]

theorem ofSpot_place (k p : Int) (w : World) : ∃ a b c er : Int, PlaceV k p = .tuple #[.int .i64 a, .int .i64 b, .int .i64 c, .int .i64 er] ∧ Calls Try.prog 29 #[.int .i64 k, .int .i64 p, .func (.func 30) #[] #[.pointer (some ⟨w.heap.size, 0, none⟩)]] (w.alloc (.cells #[.int .i64 p] 3)) fun e w' => e = .returned (.tuple #[.agg #[.int .i64 a, .int .i64 b, .int .i64 c], .int .i64 er]) ∧ Below (w.alloc (.cells #[.int .i64 p] 3)).heap.size (w.alloc (.cells #[.int .i64 p] 3)) w' := by
  have hc := cell_one w (.int .i64 p) 3
  have HF := ofSpot_any k p (fF k p) (fX k p) (fY k p) 30 #[.pointer (some ⟨w.heap.size, 0, none⟩)] (w.alloc (.cells #[.int .i64 p] 3)) (enters_of Try.func30 (by kernel_rfl) rfl)
    (fun hok W hW => by
      have hs := hW.size
      simp only [World.size_alloc] at hs
      exact place1_any k p w.heap.size W hok (by rw [hW.cell (by simp)]; exact hc) (by omega))
  unfold PlaceV
  cases hok : okP k p
  · rw [hok] at HF; exact ⟨0, 0, 0, 2, rfl, HF⟩
  · rw [hok] at HF; exact ⟨_, _, _, 0, rfl, HF⟩
theorem ofPair_ringOf (k p : Int) (w : World) : ∃ a b er : Int, RingOfV k p = .tuple #[.int .i64 a, .int .i64 b, .int .i64 er] ∧ Calls Try.prog 36 #[.int .i64 k, .int .i64 p, .func (.func 37) #[] #[.pointer (some ⟨w.heap.size, 0, none⟩)]] (w.alloc (.cells #[.int .i64 p] 3)) fun e w' => e = .returned (.tuple #[.agg #[.int .i64 a, .int .i64 b], .int .i64 er]) ∧ Below (w.alloc (.cells #[.int .i64 p] 3)).heap.size (w.alloc (.cells #[.int .i64 p] 3)) w' := by
  have hc := cell_one w (.int .i64 p) 3
  have HF := ofPair_any k p (pR k p) (pP k p) 37 #[.pointer (some ⟨w.heap.size, 0, none⟩)] (w.alloc (.cells #[.int .i64 p] 3)) (enters_of Try.func37 (by kernel_rfl) rfl)
    (fun hok W hW => by
      have hs := hW.size
      simp only [World.size_alloc] at hs
      exact ringOf1_any k p w.heap.size W hok (by rw [hW.cell (by simp)]; exact hc) (by omega))
  unfold RingOfV
  cases hok : okP k p
  · rw [hok] at HF; exact ⟨0, 0, 2, rfl, HF⟩
  · rw [hok] at HF; exact ⟨_, _, 0, rfl, HF⟩

theorem Place_any (k p : Int) (w : World) :
    Calls Try.prog 9 #[.int .i64 k, .int .i64 p] w fun e w' => e = .returned (PlaceV k p) ∧ Below w.heap.size w w' := by
  have hB0 := below_alloc w (.cells #[.int .i64 p] 3)
  obtain ⟨a, b, c, er, hv, HF⟩ := ofSpot_place k p w
  rw [hv]
  have HG := Lib.hid HF; clear HF hv
  go_enter Try.func9, Try.ntmps9
  go_wp2_with (go_at_call 29; refine HG.out.mono ?_; rintro e w1 ⟨rfl, h1⟩; have hbx := Box.new w1 60 #[.int .i64 a, .int .i64 b, .int .i64 c]; obtain ⟨⟨x0, x1, x2⟩, x3, x4, x5⟩ := hbx.three; clear hbx)
  go_quiet (fail)
  go_wp2_with fail
  refine bodyPost_ret (v := .tuple #[.int .i64 a, .int .i64 b, .int .i64 c, .int .i64 er]) (by simp [results, Try.results9, go_sem]) rfl ⟨rfl, ((hB0.trs h1).trs (below_alloc _ _)).drewsN _⟩

theorem RingOf_any (k p : Int) (w : World) :
    Calls Try.prog 11 #[.int .i64 k, .int .i64 p] w fun e w' => e = .returned (RingOfV k p) ∧ Below w.heap.size w w' := by
  have hB0 := below_alloc w (.cells #[.int .i64 p] 3)
  obtain ⟨a, b, er, hv, HF⟩ := ofPair_ringOf k p w
  rw [hv]
  have HG := Lib.hid HF; clear HF hv
  go_enter Try.func11, Try.ntmps11
  go_wp2_with (go_at_call 36; refine HG.out.mono ?_; rintro e w1 ⟨rfl, h1⟩; have hbx := Box.new w1 70 #[.int .i64 a, .int .i64 b]; obtain ⟨⟨x0, x1⟩, x2, x3⟩ := hbx.two; clear hbx)
  go_quiet (fail)
  go_wp2_with fail
  refine bodyPost_ret (v := .tuple #[.int .i64 a, .int .i64 b, .int .i64 er]) (by simp [results, Try.results11, go_sem]) rfl ⟨rfl, ((hB0.trs h1).trs (below_alloc _ _)).drewsN _⟩
end Go.Proofs.Ytgbpmleipdecgaa

/- Walks over package sky and its reference: nested numbers, second part; the law SkyNested. -/
namespace Go.Proofs.Ytgbpmleipdecgaa
set_option linter.unusedSimpArgs false
set_option linter.unusedVariables false
open Go.RowKit

/-- there is the place -/
def okN (k f x y : Int) : Bool := btw 0 f 11 && btw 0 x (sd k - 1) && btw 0 y (sd k - 1)
def nst (k f x y : Int) : Int := f * sd k * sd k + btF k.toNat x y

theorem fin16 {k x : Int} (hk : btw 0 k 4 = true) (hx : btw 0 x (sd k - 1) = true) : ∃ a : Fin 16, x = (a.val : Int) ∧ (a.val : Int) < 2 ^ k.toNat := by
  rw [btw_iff] at hx
  have hs : sd k ≤ 16 := by rcases sd_cases hk with h | h | h | h | h <;> omega
  refine ⟨⟨x.toNat, by omega⟩, by simp; omega, ?_⟩
  show ((x.toNat : Nat) : Int) < 2 ^ k.toNat
  have : sd k = 2 ^ k.toNat := rfl
  omega

set_option maxRecDepth 100000 in
set_option maxHeartbeats 1000000 in
theorem nested_gen (G : Int → Int) (k s f x y : Int) (w : World) (hG : ∀ c W, (c = x ∨ c = y) → Calls Try.prog 63 #[.int .i64 c] W fun e w' => e = .returned (.int .i64 (G c)) ∧ W = w')
    (h1 : IntKind.i64.wrap (f * s) = f * s) (h1' : wrap64 (f * s) = f * s) (h2 : IntKind.i64.wrap (f * s * s) = f * s * s) (h2' : wrap64 (f * s * s) = f * s * s)
    (h3 : IntKind.i64.wrap (f * s * s + G x) = f * s * s + G x) (h4 : IntKind.i64.wrap (2 * G y) = 2 * G y) (h4' : wrap64 (2 * G y) = 2 * G y) (h5 : IntKind.i64.wrap (f * s * s + G x + 2 * G y) = f * s * s + G x + 2 * G y) :
    Calls Try.prog 35 #[.agg #[.int .i64 k, .int .i64 s], .agg #[.int .i64 f, .int .i64 x, .int .i64 y]] w fun e w' => e = .returned (.int .i64 (f * s * s + G x + 2 * G y)) ∧ Below w.heap.size w w' := by
  have HG := Lib.hid hG; clear hG
  have hb0 := below_alloc w (.cells #[.int .i64 k, .int .i64 s] 54)
  have hbx := Box.new (w.alloc (.cells #[.int .i64 k, .int .i64 s] 54)) 60 #[.int .i64 f, .int .i64 x, .int .i64 y]
  have hbs := (Box.new w 54 #[.int .i64 k, .int .i64 s]).alloc (.cells #[.int .i64 f, .int .i64 x, .int .i64 y] 60)
  rw [World.size_alloc] at hbx
  obtain ⟨⟨c0, c1⟩, -, -⟩ := hbs.two
  obtain ⟨⟨d0, d1, d2⟩, -, -, -⟩ := hbx.three
  clear hbs hbx
  go_enter Try.func35, Try.ntmps35
  go_wp2_with fail
  go_quiet ((go_at_call 63; exact quiet_left (HG.out _ _ (by first | exact .inl rfl | exact .inr rfl))))
  go_wp2_with fail
  go_ret
  exact ⟨rfl, (hb0.trs (below_alloc _ _)).drewsN _⟩

theorem nested1_any (k f x y : Int) (g1 g2 g3 : Nat) (w : World) (hk : btw 0 k 4 = true) (h1 : w.cell? ⟨g1, 0, none⟩ = some (.int .i64 f)) (h2 : w.cell? ⟨g2, 0, none⟩ = some (.int .i64 x)) (h3 : w.cell? ⟨g3, 0, none⟩ = some (.int .i64 y)) (l1 : g1 < w.heap.size) (l2 : g2 < w.heap.size) (l3 : g3 < w.heap.size) :
    Calls Try.prog 33 #[.agg #[.int .i64 k, .int .i64 (sd k)], .pointer (some ⟨g1, 0, none⟩), .pointer (some ⟨g2, 0, none⟩), .pointer (some ⟨g3, 0, none⟩)] w fun e w' => e = .returned (.bool (okN k f x y)) ∧ Below w.heap.size w w' := by
  have hb := below_alloc w (.cells #[.int .i64 k, .int .i64 (sd k)] 54)
  rw [← hb.cell l1] at h1
  rw [← hb.cell l2] at h2
  rw [← hb.cell l3] at h3
  have hw : IntKind.i64.wrap (sd k - 1) = sd k - 1 := IntWalk.i64_in _ (by rcases sd_cases hk with h | h | h | h | h <;> omega)
  have ho : okN k f x y = (btw 0 f 11 && btw 0 x (sd k - 1) && btw 0 y (sd k - 1)) := rfl
  clear hk
  generalize okN k f x y = r at *
  generalize sd k = s at *
  have HO := Lib.hid ho; clear ho
  have HF := Lib.hid (fun W => between_any 0 f 11 W)
  have HX := Lib.hid (fun W => between_any 0 x (s - 1) W)
  cases hf : btw 0 f 11
  · rw [hf] at HF HO
    clear hf
    go_enter Try.func33, Try.ntmps33
    go_wp2_with (go_at_call 34; refine (HF.out _).mono ?_; rintro e w' ⟨rfl, rfl⟩)
    go_ret
    exact ⟨ret_bool (by rw [HO.out]; rfl), hb⟩
  · cases hx : btw 0 x (s - 1)
    all_goals
      rw [hf, hx] at HO
      rw [hf] at HF
      rw [hx] at HX
      clear hf hx
      go_enter Try.func33, Try.ntmps33
      go_wp2_with (go_at_call 34; first | (have := hF1; have := hX1; refine (between_any _ _ _ _).mono ?_; rintro e w' ⟨rfl, rfl⟩) | (have := hF1; refine (HX.out _).mono ?_; rintro e w' ⟨rfl, rfl⟩; have hX1 := hb) | (refine (HF.out _).mono ?_; rintro e w' ⟨rfl, rfl⟩; have hF1 := hb))
      go_ret
      exact ⟨ret_bool (by rw [HO.out]; simp), hb⟩

theorem nested_any (k f x y : Int) (w : World) (hk : btw 0 k 4 = true) (hn : okN k f x y = true) :
    Calls Try.prog 35 #[.agg #[.int .i64 k, .int .i64 (sd k)], .agg #[.int .i64 f, .int .i64 x, .int .i64 y]] w fun e w' => e = .returned (.int .i64 (nst k f x y)) ∧ Below w.heap.size w w' := by
  simp only [okN, Bool.and_eq_true] at hn
  obtain ⟨⟨hf, hx⟩, hy⟩ := hn
  obtain ⟨a, rfl, ha⟩ := fin16 hk hx
  obtain ⟨b, rfl, hb⟩ := fin16 hk hy
  have hfb := btw_iff.1 hf
  have bA := btF_bound a
  have bB := btF_bound b
  have hkk := btw_iff.1 hk
  have hsp := btF_split ⟨k.toNat, by omega⟩ a b ha hb
  have hs : 0 ≤ f * sd k ∧ f * sd k ≤ 176 ∧ 0 ≤ f * sd k * sd k ∧ f * sd k * sd k ≤ 2816 := by
    rcases sd_cases hk with h | h | h | h | h <;> rw [h] <;> omega
  have := nested_gen (fun c => btF 4 c 0) k (sd k) f a.val b.val w (fun c W hc => by rcases hc with rfl | rfl <;> exact spread_fin _ W) (IntWalk.i64_in _ (by omega)) (IntWalk.wrap64_in _ (by omega)) (IntWalk.i64_in _ (by omega)) (IntWalk.wrap64_in _ (by omega)) (IntWalk.i64_in _ (by omega)) (IntWalk.i64_in _ (by omega)) (IntWalk.wrap64_in _ (by omega)) (IntWalk.i64_in _ (by omega))
  have he : f * sd k * sd k + btF 4 a.val 0 + 2 * btF 4 b.val 0 = nst k f a.val b.val := by rw [Int.add_assoc, hsp]; rfl
  rw [he] at this
  exact this

def NstV (k f x y : Int) : Value := if btw 0 k 4 && okN k f x y then .tuple #[.int .i64 (nst k f x y), .int .i64 0] else .tuple #[.int .i64 0, .int .i64 2]

set_option maxHeartbeats 1000000 in
theorem Nested_any (k f x y : Int) (w : World) :
    Calls Try.prog 10 #[.int .i64 k, .int .i64 f, .int .i64 x, .int .i64 y] w fun e w' => e = .returned (NstV k f x y) ∧ Below w.heap.size w w' := by
  have hB0 : Below w.heap.size w (((w.alloc (.cells #[.int .i64 f] 3)).alloc (.cells #[.int .i64 x] 3)).alloc (.cells #[.int .i64 y] 3)) := ((below_alloc w _).trs (below_alloc _ _)).trs (below_alloc _ _)
  obtain ⟨q1, q2, q3⟩ := three_boxes w (.int .i64 f) (.int .i64 x) (.int .i64 y) 3
  cases hk : btw 0 k 4
  · have HA := Lib.hid (fun f W => asked_no k f W hk)
    have HV : Hid (NstV k f x y = .tuple #[.int .i64 0, .int .i64 2]) := Lib.hid (by simp [NstV, hk])
    clear hk q1 q2 q3
    go_enter Try.func10, Try.ntmps10
    go_wp2_with (go_at_call 32; refine (HA.out _ _).mono ?_; rintro e w1 ⟨rfl, h1⟩)
    go_ret2
    exact ⟨(by rw [HV.out]; first | done | rfl), (hB0.trs h1).trs (below_alloc _ _)⟩
  · have HA := Lib.hid (fun r (h : PredS 33 #[.pointer (some ⟨w.heap.size, 0, none⟩), .pointer (some ⟨w.heap.size + 1, 0, none⟩), .pointer (some ⟨w.heap.size + 1 + 1, 0, none⟩)] k r (((w.alloc (.cells #[.int .i64 f] 3)).alloc (.cells #[.int .i64 x] 3)).alloc (.cells #[.int .i64 y] 3))) => asked_is k 33 #[.pointer (some ⟨w.heap.size, 0, none⟩), .pointer (some ⟨w.heap.size + 1, 0, none⟩), .pointer (some ⟨w.heap.size + 1 + 1, 0, none⟩)] r _ hk (enters_of Try.func33 (by kernel_rfl) rfl) h)
    have HP : PredS 33 #[.pointer (some ⟨w.heap.size, 0, none⟩), .pointer (some ⟨w.heap.size + 1, 0, none⟩), .pointer (some ⟨w.heap.size + 1 + 1, 0, none⟩)] k (okN k f x y) (((w.alloc (.cells #[.int .i64 f] 3)).alloc (.cells #[.int .i64 x] 3)).alloc (.cells #[.int .i64 y] 3)) := by
      intro W hW
      have hs := hW.size
      simp only [World.size_alloc] at hs
      exact nested1_any k f x y w.heap.size (w.heap.size + 1) (w.heap.size + 1 + 1) W hk (by rw [hW.cell (by simp; omega)]; exact q1) (by rw [hW.cell (by simp)]; exact q2) (by rw [hW.cell (by simp)]; exact q3) (by omega) (by omega) (by omega)
    have HQ := Lib.hid (HA.out _ HP); clear HA HP
    cases hn : okN k f x y
    · have HV : Hid (NstV k f x y = .tuple #[.int .i64 0, .int .i64 2]) := Lib.hid (by simp [NstV, hk, hn])
      rw [hn] at HQ
      clear hk hn q1 q2 q3
      generalize sd k = s at *
      go_enter Try.func10, Try.ntmps10
      go_wp2_with (go_at_call 32; refine HQ.out.mono ?_; rintro e w1 ⟨rfl, h1⟩)
      go_ret2
      exact ⟨(by rw [HV.out]; first | done | rfl), (hB0.trs h1).trs (below_alloc _ _)⟩
    · have HV : Hid (NstV k f x y = .tuple #[.int .i64 (nst k f x y), .int .i64 0]) := Lib.hid (by simp [NstV, hk, hn])
      have HN := Lib.hid (fun W => nested_any k f x y W hk hn)
      rw [hn] at HQ
      clear hk hn
      have Q1 := Lib.hid q1; have Q2 := Lib.hid q2; have Q3 := Lib.hid q3
      clear q1 q2 q3
      generalize sd k = s at *
      generalize nst k f x y = v at *
      go_enter Try.func10, Try.ntmps10
      go_wp2_with (first
        | (go_at_call 32; refine HQ.out.mono ?_; rintro e w1 ⟨rfl, h1⟩; have h1a := h1.trs (below_alloc w1 (.cells #[.int .i64 k, .int .i64 s] 54)); have q1 := Q1.out; have q2 := Q2.out; have q3 := Q3.out; rw [← h1a.cell (by simp; omega)] at q1; rw [← h1a.cell (by simp)] at q2; rw [← h1a.cell (by simp)] at q3)
        | (go_at_call 35; refine (HN.out _).mono ?_; rintro e w2 ⟨rfl, h2⟩))
      go_ret2
      exact ⟨(by rw [HV.out]; first | done | rfl), (hB0.trs h1a).trs h2⟩

end Go.Proofs.Ytgbpmleipdecgaa

/- Walks over the reference of sky: Place, RingOf, Ring. -/
namespace Go.Proofs.Ytgbpmleipdecgaa
set_option linter.unusedSimpArgs false
set_option linter.unusedVariables false
open Go.RowKit

/-- the number of a place on a face: hit at one place alone -/
theorem bt_hit {k p : Int} (h : okP k p = true) (i j : Nat) (hi : (i : Int) < sd k) (hj : (j : Int) < sd k) : btF k.toNat i j = p % (sd k * sd k) ↔ ((i : Int) = fX k p ∧ (j : Int) = fY k p) := by
  have hk := okP_k h
  have hkk := btw_iff.1 hk
  obtain ⟨q1, q2, q3, q4⟩ := sd_sq hk
  have hp : 0 ≤ p ∧ p ≤ px k - 1 := by unfold okP at h; exact btw_iff.1 (Bool.and_eq_true_iff.1 h).2
  have hs := sd_b hk
  have hsk : sd k = 2 ^ k.toNat := rfl
  have m1 := Int.emod_nonneg p (show sd k * sd k ≠ 0 by omega)
  have m2 := Int.emod_lt_of_pos p (show 0 < sd k * sd k by omega)
  have g1 := gat_btF ⟨k.toNat, by omega⟩ ⟨i, by omega⟩ ⟨j, by omega⟩ (by simp only; omega) (by simp only; omega)
  have g2 := btF_gat ⟨k.toNat, by omega⟩ ⟨(p % (sd k * sd k)).toNat, by omega⟩ (by simp only; omega)
  simp only [show (((p % (sd k * sd k)).toNat : Nat) : Int) = p % (sd k * sd k) by omega] at g1 g2
  unfold fX fY fN
  constructor
  · intro e; rw [← e]; exact ⟨g1.1.symm, g1.2.symm⟩
  · rintro ⟨e1, e2⟩; rw [e1, e2]; exact g2

end Go.Proofs.Ytgbpmleipdecgaa

/- Walks over the reference of sky: the ring of a pixel, all numbers letters. -/
namespace Go.Proofs.Ytgbpmleipdecgaa
set_option linter.unusedSimpArgs false
set_option linter.unusedVariables false
open Go.RowKit

end Go.Proofs.Ytgbpmleipdecgaa

/- Walks over the reference of sky: RingOf, Ring, FromRing, On. -/
namespace Go.Proofs.Ytgbpmleipdecgaa
set_option linter.unusedSimpArgs false
set_option linter.unusedVariables false
open Go.RowKit

end Go.Proofs.Ytgbpmleipdecgaa
