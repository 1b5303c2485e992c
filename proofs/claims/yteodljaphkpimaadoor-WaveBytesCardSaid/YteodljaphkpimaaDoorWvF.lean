/- The shortest text, as its steps make it: plain; and the memory of encode. -/
import Derived.Test.YteodljaphkpimaaDoorWvE
namespace Go.Proofs.YteodljaphkpimaaDoor
open Go.RowKit
set_option linter.unusedSimpArgs false
set_option linter.unusedVariables false

def upK (k : Nat) : Tx := chg k true
def dnK (k : Nat) : Tx := chg k false
theorem chg_len (k : Nat) (b : Bool) : (chg k b).length ≤ 12 := by
  unfold chg
  rw [List.length_append, wordB_len]
  have := wid_ok k
  rcases this with h | h | h | h | h <;> simp [h]
/-- the first texts of a difference -/
def f0 (best : Nat → Ot) (n : Int) (i : Nat) : Ot := if canD (wid i) n then pre (wordB (wid i) n) (best i) else none
def stepP (best : Nat → Ot) (n : Int) : Nat → Ot := rl upK dnK (f0 best n) 5
def encF : List Int → Nat → Ot
  | [] => fun _ => some []
  | n :: r => stepP (encF r) n
/-- all texts have at most B bits -/
def LeB (B : Nat) (f : Nat → Ot) : Prop := ∀ i, i < 5 → ∀ x, f i = some x → x.length ≤ B
theorem LeB.more {B B' : Nat} {f : Nat → Ot} (h : LeB B f) (hb : B ≤ B') : LeB B' f := fun i hi x hx => Nat.le_trans (h i hi x hx) hb
theorem LeB.upd {B : Nat} {f : Nat → Ot} (h : LeB B f) (i : Nat) {v : Ot} (hv : ∀ x, v = some x → x.length ≤ B) : LeB B (upd f i v) := fun j hj x hx => by
  unfold Proofs.YteodljaphkpimaaDoor.upd at hx
  split at hx
  · exact hv x hx
  · exact h j hj x hx
theorem pre_len {p : Tx} {t : Ot} {a B : Nat} (hp : p.length ≤ a) (ht : ∀ x, t = some x → x.length ≤ B) : ∀ x, pre p t = some x → x.length ≤ B + a := fun x hx => by
  cases t with
  | none => cases hx
  | some y =>
    simp only [pre, Option.map_some, Option.some.injEq] at hx
    rw [← hx, List.length_append]
    have := ht y rfl
    omega
theorem better_len {a b : Ot} {B : Nat} (ha : ∀ x, a = some x → x.length ≤ B) (hb : ∀ x, b = some x → x.length ≤ B) : ∀ x, better a b = some x → x.length ≤ B := fun x hx => by
  rcases better_or a b with h | h <;> rw [h] at hx
  · exact ha x hx
  · exact hb x hx
/-! ### five texts in memory -/
def vals5 (v : Nat → Value) : Array Value := #[v 0, v 1, v 2, v 3, v 4]
def updV (v : Nat → Value) (i : Nat) (x : Value) : Nat → Value := fun j => if j = i then x else v j
theorem vals5_get (v : Nat → Value) {i : Nat} (hi : i < 5) : (vals5 v)[i]? = some (v i) := by
  have : i = 0 ∨ i = 1 ∨ i = 2 ∨ i = 3 ∨ i = 4 := by omega
  rcases this with rfl | rfl | rfl | rfl | rfl <;> rfl
theorem vals5_set (v : Nat → Value) {i : Nat} (hi : i < 5) (x : Value) : (vals5 v).set! i x = vals5 (updV v i x) := by
  have : i = 0 ∨ i = 1 ∨ i = 2 ∨ i = 3 ∨ i = 4 := by omega
  rcases this with rfl | rfl | rfl | rfl | rfl <;> rfl
def BoxF (w : World) (g : Nat) (v : Nat → Value) : Prop := Box w g 103 (vals5 v)
theorem BoxF.cell {w : World} {g : Nat} {v : Nat → Value} (h : BoxF w g v) {i : Nat} (hi : i < 5) : w.cell? ⟨g, i, none⟩ = some (v i) := by rw [Box.cell h, vals5_get v hi]
theorem BoxF.set_ {w : World} {g : Nat} {v : Nat → Value} (h : BoxF w g v) {i : Nat} (hi : i < 5) (x : Value) : BoxF (w.setCell ⟨g, i, none⟩ x) g (updV v i x) := by
  have := Box.set_ h i x
  unfold BoxF
  rw [← vals5_set v hi]
  simpa using this
theorem BoxF.keep {w w' : World} {B g : Nat} {v : Nat → Value} (h : BoxF w g v) (hb : Below B w w') (hg : g < B) : BoxF w' g v := Box.keep h hb hg
theorem BoxF.on {w w' : World} {g : Nat} {v : Nat → Value} (h : BoxF w g v) (hb : Below w.heap.size w w') : BoxF w' g v := Box.on h hb
theorem BoxF.lt {w : World} {g : Nat} {v : Nat → Value} (h : BoxF w g v) : g < w.heap.size := Box.lt h
theorem BoxF.frozen {w : World} {g : Nat} {v : Nat → Value} (h : BoxF w g v) (i : Nat) : w.frozen? ⟨g, i, none⟩ = false := Box.frozen h i
structure TxB (w : World) (g : Nat) (f : Nat → Ot) (v : Nat → Value) : Prop where
  box : BoxF w g v
  txt : ∀ i, i < 5 → PtrT w (v i) (f i)
theorem TxB.on {w w' : World} {g : Nat} {f : Nat → Ot} {v : Nat → Value} (h : TxB w g f v) (hb : Below w.heap.size w w') : TxB w' g f v := ⟨h.box.on hb, fun i hi => (h.txt i hi).on hb⟩
theorem PtrT.ne {w : World} {g : Nat} {v : Nat → Value} {f : Nat → Ot} {u : Value} {t : Ot} (h : TxB w g f v) (hu : PtrT w u t) : ∀ b o, u = .pointer (some ⟨b, o, none⟩) → b ≠ g := fun b o e hb => by
  subst hb
  have h0 := h.box.cell (i := 0) (by omega)
  have h1 := h.txt 0 (by omega)
  cases t with
  | none => rw [show u = .pointer none from hu] at e; cases e
  | some x =>
    obtain ⟨b', rfl, hl, hc⟩ := hu
    injection e with e
    injection e with e
    injection e with e1 e2
    subst e1
    rw [hc] at h0
    injection h0 with h0
    cases hf : f 0 with
    | none => rw [hf] at h1; rw [show v 0 = .pointer none from h1] at h0; cases h0
    | some y => rw [hf] at h1; obtain ⟨b2, h2, -⟩ := h1; rw [h2] at h0; cases h0
theorem PtrT.set {w : World} {g : Nat} {u : Value} {t : Ot} (hu : PtrT w u t) (hne : ∀ b o, u = .pointer (some ⟨b, o, none⟩) → b ≠ g) (i : Nat) (x : Value) : PtrT (w.setCell ⟨g, i, none⟩ x) u t := by
  cases t with
  | none => exact hu
  | some y =>
    obtain ⟨b, rfl, hl, hc⟩ := hu
    have hb := hne b 0 rfl
    refine ⟨b, rfl, by simpa [World.setCell] using hl, ?_⟩
    rw [World.cell?_setCell_other _ _ _ _ (by intro e; injection e with e1; exact hb e1.symm)]
    exact hc
theorem TxB.set {w : World} {g : Nat} {f : Nat → Ot} {v : Nat → Value} (h : TxB w g f v) {i : Nat} (hi : i < 5) {u : Value} {t : Ot} (hu : PtrT w u t) : TxB (w.setCell ⟨g, i, none⟩ u) g (upd f i t) (updV v i u) := by
  refine ⟨h.box.set_ hi u, fun j hj => ?_⟩
  unfold Proofs.YteodljaphkpimaaDoor.upd updV
  split
  · exact PtrT.set hu (PtrT.ne h hu) i u
  · exact PtrT.set (h.txt j hj) (PtrT.ne h (h.txt j hj)) i u
/-- a store into another array's block leaves five texts -/
theorem TxB.other {w : World} {g g2 : Nat} {f f2 : Nat → Ot} {v v2 : Nat → Value} (h : TxB w g f v) (h2 : TxB w g2 f2 v2) (hg : g ≠ g2) (i : Nat) (x : Value) : TxB (w.setCell ⟨g2, i, none⟩ x) g f v := by
  refine ⟨?_, fun j hj => PtrT.set (h.txt j hj) (PtrT.ne h2 (h.txt j hj)) i x⟩
  exact Box.far h.box (p := ⟨g2, i, none⟩) hg x
end Go.Proofs.YteodljaphkpimaaDoor
