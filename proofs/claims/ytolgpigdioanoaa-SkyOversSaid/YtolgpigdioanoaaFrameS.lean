/- How more arguments of a law are opened: a struct of two integers by value, an array of three slices of structs of two integers. -/
import Derived.Test.YtolgpigdioanoaaFrame
namespace Go.Proofs.Ytolgpigdioanoaa
open Go.ChangeShapes Go.WideShapes Go.ChangeAt Go.RowKit Go.Deep
set_option linter.unusedVariables false

section
variable {H : Type} {enc : TypeId × Value → H} {P : Program} {w : World} {base : Nat} {spare : Nat → Bool} {held : Bool}
/-- A struct of two integers by value. -/
theorem open_str2 {r : Reach} {b0 : Nat} {T : TypeId} {f0 f1 : Field} {fuel : Nat} {v : Value} {x : DataW H × List MemPlace} (hT : P.underlying T = some (.struct #[f0, f1])) (hC : P.cellsOf T = 2)
    (h0 : f0.offset = 0 ∧ P.cellsOf f0.type = 1 ∧ P.underlying f0.type = some (.int .i64)) (h1 : f1.offset = 1 ∧ P.cellsOf f1.type = 1 ∧ P.underlying f1.type = some (.int .i64))
    (hok : Value.okWide P w r b0 T v) (h : DataW.trod enc P w base spare held fuel T v.cells.toList = some x) :
    ∃ a b : Int, v = .agg #[.int .i64 a, .int .i64 b] ∧ (Lit.int .i64 a).wf = true ∧ (Lit.int .i64 b).wf = true := by
  have hv : ∃ cs, v = .agg cs ∧ cs.size = 2 := by
    simp only [Value.okWide, hT] at hok
    obtain ⟨cs, g1, g2, _⟩ := hok
    exact ⟨cs, g1, g2.trans hC⟩
  obtain ⟨⟨cs⟩, rfl, hs⟩ := hv
  simp only [List.size_toArray] at hs
  obtain ⟨ys, n2, _, hy, hlen, hyl, hf⟩ := DataW.trod_struct hT h
  match cs, hs with
  | [p, q], _ =>
    have k0 := hf 0 f0 rfl
    have k1 := hf 1 f1 rfl
    rw [h0.1, h0.2.1] at k0
    rw [h1.1, h1.2.1] at k1
    simp only [Value.cells, List.drop_zero, List.take_succ_cons, List.take_zero, List.drop_succ_cons] at k0 k1
    have hy2 : ys.length = 2 := by simpa using hyl
    have e0 : ys[0]? = some (ys[0]'(by omega)) := List.getElem?_eq_getElem (by omega)
    have e1 : ys[1]? = some (ys[1]'(by omega)) := List.getElem?_eq_getElem (by omega)
    obtain ⟨a, ha, _, wa⟩ := DataW.trod_int h0.2.2 (k0.trans e0)
    obtain ⟨b, hb, _, wb⟩ := DataW.trod_int h1.2.2 (k1.trans e1)
    simp at ha hb
    exact ⟨a, b, by rw [ha, hb], wa, wb⟩
/-- A cell that reads as a slice of pairs. -/
theorem open_pairs_any {t e : TypeId} {f0 f1 : Field} {fuel : Nat} {v : Value} {x : DataW H × List MemPlace} (ht : P.underlying t = some (.slice e)) (he : P.underlying e = some (.struct #[f0, f1])) (hC : P.cellsOf e = 2)
    (h0 : f0.offset = 0 ∧ P.cellsOf f0.type = 1 ∧ P.underlying f0.type = some (.int .i64)) (h1 : f1.offset = 1 ∧ P.cellsOf f1.type = 1 ∧ P.underlying f1.type = some (.int .i64))
    (h : DataW.trod enc P w base spare held fuel t [v] = some x) : ∃ (A : Option Addr) (c : Nat) (L : List (Int × Int)), v = .slice A L.length c ∧ L.length ≤ maxLen ∧ RdP w w.heap.size A L := by
  have hv : ∃ A n c, v = .slice A n c := by
    rcases open_slice ht h with ⟨h0, _⟩ | ⟨a, len, cap, m, n', D, Pl, hcs, _⟩
    · simp at h0; exact ⟨none, 0, 0, h0⟩
    · simp at hcs; exact ⟨some a, len, cap, hcs⟩
  obtain ⟨A, n, c, rfl⟩ := hv
  obtain ⟨hm, L, rfl, hr⟩ := open_pairs ht he hC h0 h1 h
  exact ⟨A, c, L, rfl, hm, hr⟩
/-- An array of three slices of pairs by value. -/
theorem open_arr3_pairs {r : Reach} {b0 : Nat} {T E I : TypeId} {f0 f1 : Field} {fuel : Nat} {v : Value} {x : DataW H × List MemPlace} (hT : P.underlying T = some (.array 3 E)) (hE : P.underlying E = some (.slice I)) (hI : P.underlying I = some (.struct #[f0, f1])) (hC : P.cellsOf T = 3) (hCE : P.cellsOf E = 1) (hCI : P.cellsOf I = 2)
    (h0 : f0.offset = 0 ∧ P.cellsOf f0.type = 1 ∧ P.underlying f0.type = some (.int .i64)) (h1 : f1.offset = 1 ∧ P.cellsOf f1.type = 1 ∧ P.underlying f1.type = some (.int .i64))
    (hok : Value.okWide P w r b0 T v) (h : DataW.trod enc P w base spare held fuel T v.cells.toList = some x) :
    ∃ (A0 : Option Addr) (c0 : Nat) (L0 : List (Int × Int)) (A1 : Option Addr) (c1 : Nat) (L1 : List (Int × Int)) (A2 : Option Addr) (c2 : Nat) (L2 : List (Int × Int)), v = .agg #[.slice A0 L0.length c0, .slice A1 L1.length c1, .slice A2 L2.length c2] ∧
      (L0.length ≤ maxLen ∧ RdP w w.heap.size A0 L0) ∧ (L1.length ≤ maxLen ∧ RdP w w.heap.size A1 L1) ∧ L2.length ≤ maxLen ∧ RdP w w.heap.size A2 L2 := by
  have hv : ∃ cs, v = .agg cs ∧ cs.size = 3 := by
    simp only [Value.okWide, hT] at hok
    obtain ⟨cs, g1, g2, _⟩ := hok
    exact ⟨cs, g1, g2.trans hC⟩
  obtain ⟨⟨cs⟩, rfl, hs⟩ := hv
  simp only [List.size_toArray] at hs
  obtain ⟨xs, m, _, _, _, hxl, hx⟩ := DataW.trod_array hT h
  rw [hCE] at hx
  match cs, hs with
  | [p, q, s], _ =>
    have e0 := hx 0 (by omega)
    have e1 := hx 1 (by omega)
    have e2 := hx 2 (by omega)
    simp only [Value.cells, Nat.mul_one, List.drop_zero, List.take_succ_cons, List.take_zero, List.drop_succ_cons] at e0 e1 e2
    have k0 : xs[0]? = some (xs[0]'(by omega)) := List.getElem?_eq_getElem (by omega)
    have k1 : xs[1]? = some (xs[1]'(by omega)) := List.getElem?_eq_getElem (by omega)
    have k2 : xs[2]? = some (xs[2]'(by omega)) := List.getElem?_eq_getElem (by omega)
    obtain ⟨A0, c0, L0, rfl, m0, r0⟩ := open_pairs_any hE hI hCI h0 h1 (e0.trans k0)
    obtain ⟨A1, c1, L1, rfl, m1, r1⟩ := open_pairs_any hE hI hCI h0 h1 (e1.trans k1)
    obtain ⟨A2, c2, L2, rfl, m2, r2⟩ := open_pairs_any hE hI hCI h0 h1 (e2.trans k2)
    exact ⟨A0, c0, L0, A1, c1, L1, A2, c2, L2, rfl, ⟨m0, r0⟩, ⟨m1, r1⟩, m2, r2⟩
end
end Go.Proofs.Ytolgpigdioanoaa
