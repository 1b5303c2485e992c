/- Walks over package sky: what is asked of a sphere, what is told of a pixel. -/
import Derived.Test.YtolgpigdioanoaaSkyA
namespace Go.Proofs.Ytolgpigdioanoaa
set_option linter.unusedSimpArgs false
set_option linter.unusedVariables false
open Go.RowKit

theorem Box.two {w : World} {g : Nat} {t : TypeId} {x y : Value} (h : Box w g t #[x, y]) :
    (w.cell? ⟨g, 0, none⟩ = some x ∧ w.cell? ⟨g, 1, none⟩ = some y) ∧ w.frozen? ⟨g, 0, none⟩ = false ∧ w.frozen? ⟨g, 1, none⟩ = false :=
  ⟨⟨h.cell 0, h.cell 1⟩, h.frozen 0, h.frozen 1⟩
/-- a struct of two numbers is stored into its cell -/
theorem Box.two_set {w : World} {g : Nat} {t : TypeId} {x y : Value} (h : Box w g t #[x, y]) (a b : Value) :
    ((w.setCell ⟨g, 0, none⟩ a).setCell ⟨g, 1, none⟩ b).cell? ⟨g, 0, none⟩ = some a ∧ ((w.setCell ⟨g, 0, none⟩ a).setCell ⟨g, 1, none⟩ b).cell? ⟨g, 1, none⟩ = some b ∧ ((w.setCell ⟨g, 0, none⟩ a).setCell ⟨g, 1, none⟩ b).cell? ⟨g, 0 + 1, none⟩ = some b :=
  ⟨((h.set_ 0 a).set_ 1 b).cell 0, ((h.set_ 0 a).set_ 1 b).cell 1, ((h.set_ 0 a).set_ 1 b).cell 1⟩

theorem asked_no (k : Int) (f : Value) (w : World) (hk : btw 0 k 4 = false) :
    Calls Try.prog 70 #[.int .i64 k, f] w fun e w' => e = .returned (.tuple #[.agg #[.int .i64 0, .int .i64 0], .int .i64 2]) ∧ Below w.heap.size w w' := by
  have HO := Lib.hid (fun W => open_no k W hk)
  clear hk
  go_enter Try.func70, Try.ntmps70
  go_wp2_with (go_at_call 76; refine (HO.out _).mono ?_; rintro e w1 ⟨rfl, h1⟩; have hbx := ((Box.new w 68 #[.int .i64 0, .int .i64 0]).on h1).alloc (.cells #[.int .i64 0, .int .i64 0] 68); obtain ⟨⟨c0, c1⟩, f0, f1⟩ := hbx.two; have HX := Lib.hid hbx; clear hbx)
  obtain ⟨e0, e1, e2⟩ := HX.out.two_set (.int .i64 0) (.int .i64 0)
  have hB := (((below_alloc w (.cells #[.int .i64 0, .int .i64 0] 68)).trs h1).trs (below_alloc _ (.cells #[.int .i64 0, .int .i64 0] 68)))
  refine bodyPost_ret (v := .tuple #[.agg #[.int .i64 0, .int .i64 0], .int .i64 2]) (by simp [results, Try.results70, go_sem, e0, e1, e2]) rfl ⟨rfl, (hB.setCell (p := ⟨_, _, none⟩) (Nat.le_refl _) _).setCell (p := ⟨_, _, none⟩) (Nat.le_refl _) _⟩

/-- what is asked of a closure of a sphere -/
def PredS (g : Nat) (lb : Array Value) (k : Int) (r : Bool) (w : World) : Prop :=
  ∀ W : World, Below w.heap.size w W → Calls Try.prog g (#[.agg #[.int .i64 k, .int .i64 (sd k)]] ++ lb) W fun e w' => e = .returned (.bool r) ∧ Below W.heap.size W w'

theorem asked_is (k : Int) (g : Nat) (lb : Array Value) (r : Bool) (w : World) (hk : btw 0 k 4 = true) (eg : ∀ args w, (callFunc g args).run Try.prog w = .ok (.enter g args) w) (hp : PredS g lb k r w) :
    Calls Try.prog 70 #[.int .i64 k, .func (.func g) #[] lb] w fun e w' => e = .returned (if r then .tuple #[.agg #[.int .i64 k, .int .i64 (sd k)], .int .i64 0] else .tuple #[.agg #[.int .i64 0, .int .i64 0], .int .i64 2]) ∧ Below w.heap.size w w' := by
  have HO := Lib.hid (fun W => open_ok k W hk)
  have HP := Lib.hid hp; clear hp hk
  unfold PredS at HP
  generalize sd k = s at *
  cases r
  all_goals
    go_enter Try.func70, Try.ntmps70
    go_wp2_with (first
      | (go_at_call 76; refine (HO.out _).mono ?_; rintro e w1 ⟨rfl, h1⟩; obtain ⟨⟨c0, c1⟩, c2, c3⟩ := (Box.new w1 68 #[.int .i64 k, .int .i64 s]).two)
      | (go_at_fn g; refine (HP.out _ (((below_alloc w (.cells #[.int .i64 0, .int .i64 0] 68)).trs h1).trs (below_alloc _ (.cells #[.int .i64 k, .int .i64 s] 68)))).mono ?_; rintro e w2 ⟨rfl, h2⟩; have hb6 := (Box.new w1 68 #[.int .i64 k, .int .i64 s]).on h2; have hbx := (((Box.new w 68 #[.int .i64 0, .int .i64 0]).on h1).alloc (.cells #[.int .i64 k, .int .i64 s] 68)).on h2; clear c0 c1 c2 c3; obtain ⟨⟨c0, c1⟩, f0, f1⟩ := hbx.two; obtain ⟨⟨d0, d1⟩, g0, g1⟩ := hb6.two; have HX := Lib.hid hbx; clear hbx hb6))
  · obtain ⟨e0, e1, e2⟩ := HX.out.two_set (.int .i64 0) (.int .i64 0)
    have hB := (((below_alloc w (.cells #[.int .i64 0, .int .i64 0] 68)).trs h1).trs (below_alloc _ (.cells #[.int .i64 k, .int .i64 s] 68))).trs h2
    refine bodyPost_ret (v := .tuple #[.agg #[.int .i64 0, .int .i64 0], .int .i64 2]) (by simp [results, Try.results70, go_sem, e0, e1, e2]) rfl ⟨rfl, (hB.setCell (p := ⟨_, _, none⟩) (Nat.le_refl _) _).setCell (p := ⟨_, _, none⟩) (Nat.le_refl _) _⟩
  · obtain ⟨e0, e1, e2⟩ := HX.out.two_set (.int .i64 k) (.int .i64 s)
    have hB := (((below_alloc w (.cells #[.int .i64 0, .int .i64 0] 68)).trs h1).trs (below_alloc _ (.cells #[.int .i64 k, .int .i64 s] 68))).trs h2
    refine bodyPost_ret (v := .tuple #[.agg #[.int .i64 k, .int .i64 s], .int .i64 0]) (by simp [results, Try.results70, go_sem, e0, e1, e2]) rfl ⟨rfl, (hB.setCell (p := ⟨_, _, none⟩) (Nat.le_refl _) _).setCell (p := ⟨_, _, none⟩) (Nat.le_refl _) _⟩

/-- what is told by a closure of a sphere -/
def TellS (g : Nat) (lb : Array Value) (k : Int) (R : Value → World → Prop) (w : World) : Prop :=
  ∀ W : World, Below w.heap.size w W → Calls Try.prog g (#[.agg #[.int .i64 k, .int .i64 (sd k)]] ++ lb) W fun e w' => ∃ v, e = .returned v ∧ R v w' ∧ Below W.heap.size W w'

theorem ofInt_any (k p : Int) (g : Nat) (lb : Array Value) (R : Value → World → Prop) (w : World) (eg : ∀ args w, (callFunc g args).run Try.prog w = .ok (.enter g args) w) (ht : okP k p = true → TellS g lb k R w) :
    Calls Try.prog 64 #[.int .i64 k, .int .i64 p, .func (.func g) #[] lb] w fun e w' => (if okP k p then ∃ v, e = .returned (.tuple #[v, .int .i64 0]) ∧ R v w' else e = .returned (.tuple #[.int .i64 0, .int .i64 2])) ∧ Below w.heap.size w w' := by
  have HB0 := below_alloc w (.cells #[.int .i64 p] 3)
  have hg : w.heap.size < (w.alloc (.cells #[.int .i64 p] 3)).heap.size := by simp
  have hc := cell_one w (.int .i64 p) 3
  cases hk : btw 0 k 4
  · have hn : okP k p = false := by rw [okP, hk]; rfl
    have HA := Lib.hid (fun f W => asked_no k f W hk)
    rw [hn]
    clear ht hk hn
    go_enter Try.func64, Try.ntmps64
    go_wp2_with (go_at_call 70; refine (HA.out _ _).mono ?_; rintro e w1 ⟨rfl, h1⟩)
    go_ret2
    exact ⟨rfl, ((HB0.trs h1).trs (below_alloc _ _))⟩
  · have HQ := Lib.hid (fun W (hW : Below (w.alloc (.cells #[.int .i64 p] 3)).heap.size (w.alloc (.cells #[.int .i64 p] 3)) W) => ofInt1_any k p w.heap.size W hk (by rw [hW.cell hg]; exact hc) (Nat.lt_of_lt_of_le hg hW.size))
    have HA := Lib.hid (fun W (h : PredS 125 #[.pointer (some ⟨w.heap.size, 0, none⟩)] k (btw 0 p (px k - 1)) W) => asked_is k 125 #[.pointer (some ⟨w.heap.size, 0, none⟩)] (btw 0 p (px k - 1)) W hk (enters_of Try.func125 (by kernel_rfl) rfl) h)
    have ho : okP k p = btw 0 p (px k - 1) := by rw [okP, hk]; rfl
    have HT := Lib.hid ht; clear ht
    unfold TellS at HT
    unfold PredS at HA
    rw [ho] at HT ⊢
    cases hr : btw 0 p (px k - 1)
    all_goals
      rw [hr] at HT HA HQ
      clear hr ho hk
      generalize sd k = s at *
      go_enter Try.func64, Try.ntmps64
      go_wp2_with (first
        | (go_at_call 70; refine (HA.out _ (fun W hW => HQ.out W hW)).mono ?_; rintro e w1 ⟨rfl, h1⟩)
        | (go_at_fn g; refine (HT.out (by simp) _ ((HB0.trs h1).trs (below_alloc _ _))).mono ?_; rintro e w2 ⟨v, rfl, hR, h2⟩))
      go_ret2
    · exact ⟨rfl, ((HB0.trs h1).trs (below_alloc _ _))⟩
    · exact ⟨⟨v, rfl, hR⟩, ((HB0.trs h1).trs (below_alloc _ _)).trs h2⟩

theorem ofInts_any (k p : Int) (g : Nat) (lb : Array Value) (R : Value → World → Prop) (w : World) (eg : ∀ args w, (callFunc g args).run Try.prog w = .ok (.enter g args) w) (ht : okP k p = true → TellS g lb k R w) :
    Calls Try.prog 68 #[.int .i64 k, .int .i64 p, .func (.func g) #[] lb] w fun e w' => (if okP k p then ∃ v, e = .returned (.tuple #[v, .int .i64 0]) ∧ R v w' else e = .returned (.tuple #[.slice none 0 0, .int .i64 2])) ∧ Below w.heap.size w w' := by
  have HB0 := below_alloc w (.cells #[.int .i64 p] 3)
  have hg : w.heap.size < (w.alloc (.cells #[.int .i64 p] 3)).heap.size := by simp
  have hc := cell_one w (.int .i64 p) 3
  cases hk : btw 0 k 4
  · have hn : okP k p = false := by rw [okP, hk]; rfl
    have HA := Lib.hid (fun f W => asked_no k f W hk)
    rw [hn]
    clear ht hk hn
    go_enter Try.func68, Try.ntmps68
    go_wp2_with (go_at_call 70; refine (HA.out _ _).mono ?_; rintro e w1 ⟨rfl, h1⟩)
    go_ret2
    exact ⟨rfl, ((HB0.trs h1).trs (below_alloc _ _))⟩
  · have HQ := Lib.hid (fun W (hW : Below (w.alloc (.cells #[.int .i64 p] 3)).heap.size (w.alloc (.cells #[.int .i64 p] 3)) W) => ofInts1_any k p w.heap.size W hk (by rw [hW.cell hg]; exact hc) (Nat.lt_of_lt_of_le hg hW.size))
    have HA := Lib.hid (fun W (h : PredS 127 #[.pointer (some ⟨w.heap.size, 0, none⟩)] k (btw 0 p (px k - 1)) W) => asked_is k 127 #[.pointer (some ⟨w.heap.size, 0, none⟩)] (btw 0 p (px k - 1)) W hk (enters_of Try.func127 (by kernel_rfl) rfl) h)
    have ho : okP k p = btw 0 p (px k - 1) := by rw [okP, hk]; rfl
    have HT := Lib.hid ht; clear ht
    unfold TellS at HT
    unfold PredS at HA
    rw [ho] at HT ⊢
    cases hr : btw 0 p (px k - 1)
    all_goals
      rw [hr] at HT HA HQ
      clear hr ho hk
      generalize sd k = s at *
      go_enter Try.func68, Try.ntmps68
      go_wp2_with (first
        | (go_at_call 70; refine (HA.out _ (fun W hW => HQ.out W hW)).mono ?_; rintro e w1 ⟨rfl, h1⟩)
        | (go_at_fn g; refine (HT.out (by simp) _ ((HB0.trs h1).trs (below_alloc _ _))).mono ?_; rintro e w2 ⟨v, rfl, hR, h2⟩))
      go_ret2
    · exact ⟨rfl, ((HB0.trs h1).trs (below_alloc _ _))⟩
    · exact ⟨⟨v, rfl, hR⟩, ((HB0.trs h1).trs (below_alloc _ _)).trs h2⟩
end Go.Proofs.Ytolgpigdioanoaa
