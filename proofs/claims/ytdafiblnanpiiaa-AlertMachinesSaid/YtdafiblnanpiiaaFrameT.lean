/- How the arguments of a law are opened: a slice of structs of three integers reads as a list. -/
import Derived.Test.YtdafiblnanpiiaaFrame
import Derived.Test.YtdafiblnanpiiaaLibT
namespace Go.Proofs.Ytdafiblnanpiiaa
set_option linter.unusedVariables false
open Go.ChangeShapes Go.WideShapes Go.ChangeAt Go.RowKit Go.Deep

section
variable {H : Type} {enc : TypeId × Value → H} {P : Program} {w : World} {base : Nat} {spare : Nat → Bool} {held : Bool}
/-- A slice of triples of integers. -/
theorem open_triples {t e : TypeId} {f0 f1 f2 : Field} {fuel : Nat} {A : Option Addr} {n c : Nat} {x : DataW H × List MemPlace} (ht : P.underlying t = some (.slice e)) (he : P.underlying e = some (.struct #[f0, f1, f2])) (hC : P.cellsOf e = 3)
    (h0 : f0.offset = 0 ∧ P.cellsOf f0.type = 1 ∧ P.underlying f0.type = some (.int .i64)) (h1 : f1.offset = 1 ∧ P.cellsOf f1.type = 1 ∧ P.underlying f1.type = some (.int .i64)) (h2 : f2.offset = 2 ∧ P.cellsOf f2.type = 1 ∧ P.underlying f2.type = some (.int .i64))
    (h : DataW.trod enc P w base spare held fuel t [.slice A n c] = some x) : n ≤ maxLen ∧ ∃ L : List (Int × Int × Int), n = L.length ∧ RdT w w.heap.size A L := by
  obtain ⟨hm, h⟩ := open_recs 3 (by omega) ht he rfl hC (fun j hj => by
    match j, hj with
    | 0, _ => exact ⟨f0, rfl, h0⟩
    | 1, _ => exact ⟨f1, rfl, h1⟩
    | 2, _ => exact ⟨f2, rfl, h2⟩) h
  refine ⟨hm, ?_⟩
  rcases h with rfl | ⟨b, o, rfl, hb, f, hf⟩
  · exact ⟨[], rfl, .inl rfl⟩
  · refine ⟨(List.range n).map fun i => (f i 0, f i 1, f i 2), by simp, .inr ⟨b, o, rfl, hb, fun i hi => ?_⟩⟩
    simp at hi
    have e0 := hf i hi 0 (by omega)
    have e1 := hf i hi 1 (by omega)
    have e2 := hf i hi 2 (by omega)
    simp only [Nat.add_zero] at e0
    rw [e0, e1, e2]
    simp [ta, tb, tc, hi]
end
end Go.Proofs.Ytdafiblnanpiiaa
