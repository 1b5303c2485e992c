/- Walks over package wave: Quiet. -/
import Derived.Test.YtkjiancdhaocaaaDoorWvS
import Derived.Deep.RegionHeld3
namespace Go.Proofs.YtkjiancdhaocaaaDoor
open Go.RowKit Go.Shelf
set_option linter.unusedSimpArgs false
set_option linter.unusedVariables false
attribute [local go_sem] Oper.semAt_some

/-- sample number k of the quiet wave form -/
def qv (l : List Int) (m : Int) : Nat → Int
  | 0 => ix l 0
  | k + 1 => if btw (-m) (ix l (k + 1) - qv l m k) m then qv l m k else ix l (k + 1)
def qF (l : List Int) (m : Int) (i : Nat) : Nat → Int := fun k => if k < i then qv l m k else ix l k
def quI (l : List Int) (m : Int) : List Int := (List.range l.length).map (qv l m)
theorem quI_len (l : List Int) (m : Int) : (quI l m).length = l.length := by simp [quI]
theorem quI_ix (l : List Int) (m : Int) {k : Nat} (hk : k < l.length) : ix (quI l m) k = qv l m k := by simp [ix, quI, hk]
theorem qv_small {l : List Int} (h : ∀ k, k < l.length → 0 ≤ ix l k ∧ ix l k ≤ 1023) (m : Int) : ∀ k, k < l.length → 0 ≤ qv l m k ∧ qv l m k ≤ 1023
  | 0, hk => h 0 hk
  | k + 1, hk => by
    rw [qv]
    split
    · exact qv_small h m k (by omega)
    · exact h _ hk
/-- n ints in a block -/
structure CelF (w : World) (g n : Nat) (f : Nat → Int) : Prop where
  lt : g < w.heap.size
  cell : ∀ k, k < n → w.cell? ⟨g, k, none⟩ = some (.int .i64 (f k))
  frozen : ∀ k, w.frozen? ⟨g, k, none⟩ = false
theorem CelF.on {w w' : World} {g n : Nat} {f : Nat → Int} (h : CelF w g n f) (hb : Below w.heap.size w w') : CelF w' g n f :=
  ⟨Nat.lt_of_lt_of_le h.lt hb.size, fun k hk => (hb.cell (p := ⟨g, k, none⟩) h.lt).trans (h.cell k hk), fun k => (hb.frozen (p := ⟨g, k, none⟩) h.lt).trans (h.frozen k)⟩
theorem CelF.set {w : World} {g n i : Nat} {f f' : Nat → Int} {x : Int} (h : CelF w g n f) (hi : i < n) (hf : ∀ k, k < n → f' k = if k = i then x else f k) : CelF (w.setCell ⟨g, i, none⟩ (.int .i64 x)) g n f' := by
  refine ⟨by simpa using h.lt, fun k hk => ?_, fun k => by simpa using h.frozen k⟩
  rw [hf k hk]
  by_cases e : k = i
  · subst e; rw [if_pos rfl]; exact World.cell?_setCell_same _ _ _ (h.cell k hk)
  · rw [if_neg e, World.cell?_setCell_other _ _ _ _ (by intro e'; injection e' with _ e2; exact e e2.symm)]; exact h.cell k hk
theorem CelF.cong {w : World} {g n : Nat} {f f' : Nat → Int} (h : CelF w g n f) (hf : ∀ k, k < n → f' k = f k) : CelF w g n f' := ⟨h.lt, fun k hk => by rw [hf k hk]; exact h.cell k hk, h.frozen⟩
theorem CelF.rd {w : World} {g n : Nat} {f : Nat → Int} {l : List Int} (h : CelF w g n f) (hn : l.length = n) (hf : ∀ k, k < n → f k = ix l k) : RdI w w.heap.size (some ⟨g, 0, none⟩) l :=
  .inr ⟨g, 0, rfl, h.lt, fun k hk => by rw [Nat.zero_add, h.cell k (by omega), hf k (by omega)]⟩
def QuE (l : List Int) (m : Int) : Int := if vldW l then (if btw 0 m 1023 then 0 else 2) else 30
def quL (l : List Int) (m : Int) : List Int := if QuE l m = 0 then quI l m else []
/-- a list and a number come back -/
def LisE (L : List Int) (E : Int) (w : World) (e : Ending) (w' : World) : Prop := Below w.heap.size w w' ∧ ∃ A c, e = .returned (.tuple #[.slice A L.length c, .int .i64 E]) ∧ RdI w' w'.heap.size A L
end Go.Proofs.YtkjiancdhaocaaaDoor
