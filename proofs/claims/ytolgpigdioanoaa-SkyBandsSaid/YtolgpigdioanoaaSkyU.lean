/- Walks over package sky: what is told of a pixel by a spot, and by a pair. -/
import Derived.Test.YtolgpigdioanoaaSkyS
namespace Go.Proofs.Ytolgpigdioanoaa
set_option linter.unusedSimpArgs false
set_option linter.unusedVariables false
open Go.RowKit

theorem Box.three_set {w : World} {g : Nat} {t : TypeId} {x y z : Value} (h : Box w g t #[x, y, z]) (a b c : Value) :
    (((w.setCell ⟨g, 0, none⟩ a).setCell ⟨g, 1, none⟩ b).setCell ⟨g, 2, none⟩ c).cell? ⟨g, 0, none⟩ = some a ∧ (((w.setCell ⟨g, 0, none⟩ a).setCell ⟨g, 1, none⟩ b).setCell ⟨g, 2, none⟩ c).cell? ⟨g, 1, none⟩ = some b ∧ (((w.setCell ⟨g, 0, none⟩ a).setCell ⟨g, 1, none⟩ b).setCell ⟨g, 2, none⟩ c).cell? ⟨g, 2, none⟩ = some c :=
  ⟨(((h.set_ 0 a).set_ 1 b).set_ 2 c).cell 0, (((h.set_ 0 a).set_ 1 b).set_ 2 c).cell 1, (((h.set_ 0 a).set_ 1 b).set_ 2 c).cell 2⟩
theorem ofSpot1_any (k p : Int) (g : Nat) (w : World) (hk : btw 0 k 4 = true) (hc : w.cell? ⟨g, 0, none⟩ = some (.int .i64 p)) (hg : g < w.heap.size) :
    Calls Try.prog 129 #[.agg #[.int .i64 k, .int .i64 (sd k)], .pointer (some ⟨g, 0, none⟩)] w fun e w' => e = .returned (.bool (btw 0 p (px k - 1))) ∧ Below w.heap.size w w' := by
  have HI := Lib.hid (fun W => is_any k p W hk)
  clear hk
  rw [← (below_alloc w (.cells #[.int .i64 k, .int .i64 (sd k)] 68)).cell hg] at hc
  generalize sd k = s at *
  go_enter Try.func129, Try.ntmps129
  go_wp2_with (go_at_call 126; refine (HI.out _).mono ?_; rintro e w1 ⟨rfl, h1⟩)
  go_ret
  exact ⟨rfl, (below_alloc _ _).trs h1⟩
theorem ofPair1_any (k p : Int) (g : Nat) (w : World) (hk : btw 0 k 4 = true) (hc : w.cell? ⟨g, 0, none⟩ = some (.int .i64 p)) (hg : g < w.heap.size) :
    Calls Try.prog 131 #[.agg #[.int .i64 k, .int .i64 (sd k)], .pointer (some ⟨g, 0, none⟩)] w fun e w' => e = .returned (.bool (btw 0 p (px k - 1))) ∧ Below w.heap.size w w' := by
  have HI := Lib.hid (fun W => is_any k p W hk)
  clear hk
  rw [← (below_alloc w (.cells #[.int .i64 k, .int .i64 (sd k)] 68)).cell hg] at hc
  generalize sd k = s at *
  go_enter Try.func131, Try.ntmps131
  go_wp2_with (go_at_call 126; refine (HI.out _).mono ?_; rintro e w1 ⟨rfl, h1⟩)
  go_ret
  exact ⟨rfl, (below_alloc _ _).trs h1⟩

theorem ofSpot_any (k p a b c : Int) (g : Nat) (lb : Array Value) (w : World) (eg : ∀ args w, (callFunc g args).run Try.prog w = .ok (.enter g args) w) (ht : okP k p = true → TellS g lb k (fun v _ => v = .agg #[.int .i64 a, .int .i64 b, .int .i64 c]) w) :
    Calls Try.prog 87 #[.int .i64 k, .int .i64 p, .func (.func g) #[] lb] w fun e w' => e = .returned (if okP k p then .tuple #[.agg #[.int .i64 a, .int .i64 b, .int .i64 c], .int .i64 0] else .tuple #[.agg #[.int .i64 0, .int .i64 0, .int .i64 0], .int .i64 2]) ∧ Below w.heap.size w w' := by
  have HB0 := (below_alloc w (.cells #[.int .i64 p] 3)).trs (below_alloc _ (.cells #[.int .i64 0, .int .i64 0, .int .i64 0] 77))
  have hg : w.heap.size < ((w.alloc (.cells #[.int .i64 p] 3)).alloc (.cells #[.int .i64 0, .int .i64 0, .int .i64 0] 77)).heap.size := by simp; omega
  have hc := ((Box.new w 3 #[.int .i64 p]).alloc (.cells #[.int .i64 0, .int .i64 0, .int .i64 0] 77)).cell 0
  have hres := Box.new (w.alloc (.cells #[.int .i64 p] 3)) 77 #[.int .i64 0, .int .i64 0, .int .i64 0]
  rw [World.size_alloc] at hres
  have HRES := Lib.hid hres; clear hres
  cases hk : btw 0 k 4
  · have hn : okP k p = false := by rw [okP, hk]; rfl
    have HA := Lib.hid (fun f W => asked_no k f W hk)
    rw [hn]
    clear ht hk hn hc
    go_enter Try.func87, Try.ntmps87
    go_wp2_with (go_at_call 70; refine (HA.out _ _).mono ?_; rintro e w1 ⟨rfl, h1⟩; have hbx := ((HRES.out.on h1).alloc (.cells #[.int .i64 0, .int .i64 0] 68)).alloc (.cells #[.int .i64 0, .int .i64 0, .int .i64 0] 77); obtain ⟨⟨x0, x1, x2⟩, x3, x4, x5⟩ := hbx.three; have HX := Lib.hid hbx; clear hbx)
    obtain ⟨e0, e1, e2⟩ := HX.out.three_set (.int .i64 0) (.int .i64 0) (.int .i64 0)
    refine bodyPost_ret (v := .tuple #[.agg #[.int .i64 0, .int .i64 0, .int .i64 0], .int .i64 2]) (by simp [results, Try.results87, go_sem, e0, e1, e2]) rfl ⟨rfl, (((((HB0.trs h1).trs (below_alloc _ _)).trs (below_alloc _ _)).setCell (p := ⟨_, _, none⟩) (by simp) _).setCell (p := ⟨_, _, none⟩) (by simp) _).setCell (p := ⟨_, _, none⟩) (by simp) _⟩
  · have HQ := Lib.hid (fun W (hW : Below ((w.alloc (.cells #[.int .i64 p] 3)).alloc (.cells #[.int .i64 0, .int .i64 0, .int .i64 0] 77)).heap.size ((w.alloc (.cells #[.int .i64 p] 3)).alloc (.cells #[.int .i64 0, .int .i64 0, .int .i64 0] 77)) W) => ofSpot1_any k p w.heap.size W hk (by rw [hW.cell hg]; exact hc) (Nat.lt_of_lt_of_le hg hW.size))
    have HA := Lib.hid (fun W (h : PredS 129 #[.pointer (some ⟨w.heap.size, 0, none⟩)] k (btw 0 p (px k - 1)) W) => asked_is k 129 #[.pointer (some ⟨w.heap.size, 0, none⟩)] (btw 0 p (px k - 1)) W hk (enters_of Try.func129 (by kernel_rfl) rfl) h)
    have ho : okP k p = btw 0 p (px k - 1) := by rw [okP, hk]; rfl
    have HT := Lib.hid ht; clear ht
    unfold TellS at HT
    unfold PredS at HA
    rw [ho] at HT ⊢
    cases hr : btw 0 p (px k - 1)
    · rw [hr] at HT HA HQ
      clear hr ho hk hc
      generalize sd k = s at *
      go_enter Try.func87, Try.ntmps87
      go_wp2_with (go_at_call 70; refine (HA.out _ (fun W hW => HQ.out W hW)).mono ?_; rintro e w1 ⟨rfl, h1⟩; have hbx := ((HRES.out.on h1).alloc (.cells #[.int .i64 0, .int .i64 0] 68)).alloc (.cells #[.int .i64 0, .int .i64 0, .int .i64 0] 77); obtain ⟨⟨x0, x1, x2⟩, x3, x4, x5⟩ := hbx.three; have HX := Lib.hid hbx; clear hbx)
      obtain ⟨e0, e1, e2⟩ := HX.out.three_set (.int .i64 0) (.int .i64 0) (.int .i64 0)
      refine bodyPost_ret (v := .tuple #[.agg #[.int .i64 0, .int .i64 0, .int .i64 0], .int .i64 2]) (by simp [results, Try.results87, go_sem, e0, e1, e2]) rfl ⟨rfl, (((((HB0.trs h1).trs (below_alloc _ _)).trs (below_alloc _ _)).setCell (p := ⟨_, _, none⟩) (by simp) _).setCell (p := ⟨_, _, none⟩) (by simp) _).setCell (p := ⟨_, _, none⟩) (by simp) _⟩
    · rw [hr] at HT HA HQ
      clear hr ho hk hc
      generalize sd k = s at *
      go_enter Try.func87, Try.ntmps87
      go_wp2_with (first
        | (go_at_call 70; refine (HA.out _ (fun W hW => HQ.out W hW)).mono ?_; rintro e w1 ⟨rfl, h1⟩)
        | (go_at_fn g; refine (HT.out (by simp) _ ((HB0.trs h1).trs (below_alloc _ _))).mono ?_; rintro e w2 ⟨v, rfl, rfl, h2⟩; have hbx := ((HRES.out.on h1).alloc (.cells #[.int .i64 k, .int .i64 s] 68)).on h2; obtain ⟨⟨x0, x1, x2⟩, x3, x4, x5⟩ := hbx.three; have HX := Lib.hid hbx; clear hbx))
      obtain ⟨e0, e1, e2⟩ := HX.out.three_set (.int .i64 a) (.int .i64 b) (.int .i64 c)
      refine bodyPost_ret (v := .tuple #[.agg #[.int .i64 a, .int .i64 b, .int .i64 c], .int .i64 0]) (by simp [results, Try.results87, go_sem, e0, e1, e2]) rfl ⟨rfl, (((((HB0.trs h1).trs (below_alloc _ _)).trs h2).setCell (p := ⟨_, _, none⟩) (by simp) _).setCell (p := ⟨_, _, none⟩) (by simp) _).setCell (p := ⟨_, _, none⟩) (by simp) _⟩

theorem ofPair_any (k p a b : Int) (g : Nat) (lb : Array Value) (w : World) (eg : ∀ args w, (callFunc g args).run Try.prog w = .ok (.enter g args) w) (ht : okP k p = true → TellS g lb k (fun v _ => v = .agg #[.int .i64 a, .int .i64 b]) w) :
    Calls Try.prog 94 #[.int .i64 k, .int .i64 p, .func (.func g) #[] lb] w fun e w' => e = .returned (if okP k p then .tuple #[.agg #[.int .i64 a, .int .i64 b], .int .i64 0] else .tuple #[.agg #[.int .i64 0, .int .i64 0], .int .i64 2]) ∧ Below w.heap.size w w' := by
  have HB0 := (below_alloc w (.cells #[.int .i64 p] 3)).trs (below_alloc _ (.cells #[.int .i64 0, .int .i64 0] 31))
  have hg : w.heap.size < ((w.alloc (.cells #[.int .i64 p] 3)).alloc (.cells #[.int .i64 0, .int .i64 0] 31)).heap.size := by simp; omega
  have hc := ((Box.new w 3 #[.int .i64 p]).alloc (.cells #[.int .i64 0, .int .i64 0] 31)).cell 0
  have hres := Box.new (w.alloc (.cells #[.int .i64 p] 3)) 31 #[.int .i64 0, .int .i64 0]
  rw [World.size_alloc] at hres
  have HRES := Lib.hid hres; clear hres
  cases hk : btw 0 k 4
  · have hn : okP k p = false := by rw [okP, hk]; rfl
    have HA := Lib.hid (fun f W => asked_no k f W hk)
    rw [hn]
    clear ht hk hn hc
    go_enter Try.func94, Try.ntmps94
    go_wp2_with (go_at_call 70; refine (HA.out _ _).mono ?_; rintro e w1 ⟨rfl, h1⟩; have hbx := ((HRES.out.on h1).alloc (.cells #[.int .i64 0, .int .i64 0] 68)).alloc (.cells #[.int .i64 0, .int .i64 0] 31); obtain ⟨⟨x0, x1⟩, x2, x3⟩ := hbx.two; have HX := Lib.hid hbx; clear hbx)
    obtain ⟨e0, e1, e2⟩ := HX.out.two_set (.int .i64 0) (.int .i64 0)
    refine bodyPost_ret (v := .tuple #[.agg #[.int .i64 0, .int .i64 0], .int .i64 2]) (by simp [results, Try.results94, go_sem, e0, e1, e2]) rfl ⟨rfl, ((((HB0.trs h1).trs (below_alloc _ _)).trs (below_alloc _ _)).setCell (p := ⟨_, _, none⟩) (by simp) _).setCell (p := ⟨_, _, none⟩) (by simp) _⟩
  · have HQ := Lib.hid (fun W (hW : Below ((w.alloc (.cells #[.int .i64 p] 3)).alloc (.cells #[.int .i64 0, .int .i64 0] 31)).heap.size ((w.alloc (.cells #[.int .i64 p] 3)).alloc (.cells #[.int .i64 0, .int .i64 0] 31)) W) => ofPair1_any k p w.heap.size W hk (by rw [hW.cell hg]; exact hc) (Nat.lt_of_lt_of_le hg hW.size))
    have HA := Lib.hid (fun W (h : PredS 131 #[.pointer (some ⟨w.heap.size, 0, none⟩)] k (btw 0 p (px k - 1)) W) => asked_is k 131 #[.pointer (some ⟨w.heap.size, 0, none⟩)] (btw 0 p (px k - 1)) W hk (enters_of Try.func131 (by kernel_rfl) rfl) h)
    have ho : okP k p = btw 0 p (px k - 1) := by rw [okP, hk]; rfl
    have HT := Lib.hid ht; clear ht
    unfold TellS at HT
    unfold PredS at HA
    rw [ho] at HT ⊢
    cases hr : btw 0 p (px k - 1)
    · rw [hr] at HT HA HQ
      clear hr ho hk hc
      generalize sd k = s at *
      go_enter Try.func94, Try.ntmps94
      go_wp2_with (go_at_call 70; refine (HA.out _ (fun W hW => HQ.out W hW)).mono ?_; rintro e w1 ⟨rfl, h1⟩; have hbx := ((HRES.out.on h1).alloc (.cells #[.int .i64 0, .int .i64 0] 68)).alloc (.cells #[.int .i64 0, .int .i64 0] 31); obtain ⟨⟨x0, x1⟩, x2, x3⟩ := hbx.two; have HX := Lib.hid hbx; clear hbx)
      obtain ⟨e0, e1, e2⟩ := HX.out.two_set (.int .i64 0) (.int .i64 0)
      refine bodyPost_ret (v := .tuple #[.agg #[.int .i64 0, .int .i64 0], .int .i64 2]) (by simp [results, Try.results94, go_sem, e0, e1, e2]) rfl ⟨rfl, ((((HB0.trs h1).trs (below_alloc _ _)).trs (below_alloc _ _)).setCell (p := ⟨_, _, none⟩) (by simp) _).setCell (p := ⟨_, _, none⟩) (by simp) _⟩
    · rw [hr] at HT HA HQ
      clear hr ho hk hc
      generalize sd k = s at *
      go_enter Try.func94, Try.ntmps94
      go_wp2_with (first
        | (go_at_call 70; refine (HA.out _ (fun W hW => HQ.out W hW)).mono ?_; rintro e w1 ⟨rfl, h1⟩)
        | (go_at_fn g; refine (HT.out (by simp) _ ((HB0.trs h1).trs (below_alloc _ _))).mono ?_; rintro e w2 ⟨v, rfl, rfl, h2⟩; have hbx := ((HRES.out.on h1).alloc (.cells #[.int .i64 k, .int .i64 s] 68)).on h2; obtain ⟨⟨x0, x1⟩, x2, x3⟩ := hbx.two; have HX := Lib.hid hbx; clear hbx))
      obtain ⟨e0, e1, e2⟩ := HX.out.two_set (.int .i64 a) (.int .i64 b)
      refine bodyPost_ret (v := .tuple #[.agg #[.int .i64 a, .int .i64 b], .int .i64 0]) (by simp [results, Try.results94, go_sem, e0, e1, e2]) rfl ⟨rfl, ((((HB0.trs h1).trs (below_alloc _ _)).trs h2).setCell (p := ⟨_, _, none⟩) (by simp) _).setCell (p := ⟨_, _, none⟩) (by simp) _⟩
end Go.Proofs.Ytolgpigdioanoaa
