/- More plain lemmas: a block of truths that is known whole; 'make([]bool, n)'. -/
import Derived.Test.YtgbpmleipdecgaaLib4
namespace Go.Proofs.Ytgbpmleipdecgaa
set_option linter.unusedVariables false
open Go.RowKit

def BoxB (w : World) (g : Nat) (t : TypeId) (l : List Bool) : Prop := Box w g t (l.map Value.bool).toArray
theorem BoxB.lt {w : World} {g : Nat} {t : TypeId} {l : List Bool} (h : BoxB w g t l) : g < w.heap.size := Box.lt h
theorem BoxB.cell {w : World} {g : Nat} {t : TypeId} {l : List Bool} (h : BoxB w g t l) {k : Nat} (hk : k < l.length) : w.cell? ⟨g, k, none⟩ = some (.bool (l.getD k false)) := by
  rw [Box.cell h]; simp [hk]
theorem BoxB.frozen {w : World} {g : Nat} {t : TypeId} {l : List Bool} (h : BoxB w g t l) (k : Nat) : w.frozen? ⟨g, k, none⟩ = false := Box.frozen h k
theorem BoxB.on {w w' : World} {g : Nat} {t : TypeId} {l : List Bool} (h : BoxB w g t l) (hb : Below w.heap.size w w') : BoxB w' g t l := Box.on h hb
theorem BoxB.set_ {w : World} {g : Nat} {t : TypeId} {l : List Bool} (h : BoxB w g t l) (k : Nat) (x : Bool) : BoxB (w.setCell ⟨g, k, none⟩ (.bool x)) g t (l.set k x) := by
  have := Box.set_ h k (.bool x)
  unfold BoxB
  rw [List.map_set]
  simpa using this
theorem BoxB.made (w : World) (n : Nat) (i : TypeInfo) (t : TypeId) (h : i.size = 1) : BoxB (w.alloc (.cells (madeCells (Value.bool false).cells (n * i.size)) t)) w.heap.size t (List.replicate n false) := by
  have e : (madeCells (Value.bool false).cells (n * i.size)) = ((List.replicate n false).map Value.bool).toArray := by
    apply Array.ext'
    rw [h, Nat.mul_one]
    show (madeCells #[.bool false] n).toList = _
    rw [toList_madeCells_one]
    simp
  unfold BoxB
  rw [← e]
  exact Box.new _ _ _
theorem run_make_bool {P : Program} {T t : TypeId} (hT : P.underlying T = some (.slice t)) (hI : (P.info? t).map (fun i => (i.zero, i.size, i.bytes)) = some (some (.bool false), 1, 1)) (n : Int) (h0 : 0 ≤ n) (h1 : n ≤ 1000000) :
    ∃ cs : Array Value, (∀ w : World, (Instr.makeSlice T (.int .i64 n) (.int .i64 n)).run P w = .ok (.slice (some ⟨w.heap.size, 0, none⟩) n.toNat n.toNat) (w.alloc (.cells cs t))) ∧ ∀ w : World, BoxB (w.alloc (.cells cs t)) w.heap.size t (List.replicate n.toNat false) := by
  obtain ⟨i0, hi, hz0, hz1, hz2⟩ := info_parts hI
  exact ⟨_, fun w => run_make (P := P) w T t i0 (.bool false) hT hi hz0 .i64 .i64 n n h0 (Int.le_refl _) (by rw [hz2]; omega) (by omega), fun w => BoxB.made w n.toNat i0 t hz1⟩
/-- a list of truths, told by a predicate -/
def truths (p : Nat → Bool) (n : Nat) : List Bool := (List.range n).map p
theorem truths_len (p : Nat → Bool) (n : Nat) : (truths p n).length = n := by simp [truths]
theorem truths_get (p : Nat → Bool) (n k : Nat) (hk : k < n) : (truths p n).getD k false = p k := by simp [truths, hk]
theorem truths_no (n : Nat) : List.replicate n false = truths (fun _ => false) n := by
  apply List.ext_getElem
  · simp [truths]
  · intro i h1 h2; simp [truths]
theorem truths_set (p : Nat → Bool) (n m : Nat) (x : Bool) : (truths p n).set m x = truths (fun k => if k = m then x else p k) n := by
  apply List.ext_getElem
  · simp [truths]
  · intro i h1 h2
    rw [List.getElem_set]
    simp only [truths, List.getElem_map, List.getElem_range]
    by_cases e : m = i
    · rw [if_pos e, if_pos e.symm]
    · rw [if_neg e, if_neg (fun h => e h.symm)]
end Go.Proofs.Ytgbpmleipdecgaa
