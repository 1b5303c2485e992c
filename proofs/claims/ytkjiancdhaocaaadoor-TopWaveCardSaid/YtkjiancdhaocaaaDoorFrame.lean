/- How the arguments of a law are opened: a slice of structs of integers reads as a list. -/
import Derived.Test.YtkjiancdhaocaaaDoorLib
import Derived.ProofKit
import Derived.OpenShut
import Derived.ShutString
import Derived.ChangeOld
import Derived.Below
import Derived.Deep.Slices
import Derived.Deep.Fields
import Derived.ChangeSame
namespace Go.Proofs.YtkjiancdhaocaaaDoor
set_option linter.unusedVariables false
open Go.ChangeShapes Go.WideShapes Go.ChangeAt Go.RowKit Go.Deep

section
variable {H : Type} {enc : TypeId × Value → H} {P : Program} {w : World} {base : Nat} {spare : Nat → Bool} {held : Bool}
/-- A slice of structs of k integers: cell j of element i is the number f i j. -/
theorem open_recs (k : Nat) (hk : 0 < k) {t e : TypeId} {fs : Array Field} {fuel : Nat} {A : Option Addr} {n c : Nat} {x : DataW H × List MemPlace} (ht : P.underlying t = some (.slice e)) (he : P.underlying e = some (.struct fs)) (hfs : fs.size = k) (hC : P.cellsOf e = k)
    (hint : ∀ j, j < k → ∃ f, fs[j]? = some f ∧ f.offset = j ∧ P.cellsOf f.type = 1 ∧ P.underlying f.type = some (.int .i64))
    (h : DataW.trod enc P w base spare held fuel t [.slice A n c] = some x) :
    n ≤ maxLen ∧ (n = 0 ∨ ∃ b o, A = some ⟨b, o, none⟩ ∧ b < w.heap.size ∧ ∃ f : Nat → Nat → Int, ∀ i, i < n → ∀ j, j < k → w.cell? ⟨b, o + i * k + j, none⟩ = some (.int .i64 (f i j))) := by
  rcases open_slice ht h with ⟨h0, _⟩ | ⟨a, len, cap, m, n', D, Pl, hcs, hb, hl, hm, hmm, hx, hi⟩
  · simp at h0
    exact ⟨by omega, .inl h0.2.1⟩
  · simp at hcs
    obtain ⟨rfl, rfl, rfl⟩ := hcs
    refine ⟨Nat.le_trans hl hm, ?_⟩
    by_cases hn : n = 0
    · exact .inl hn
    right
    have hmn : n ≤ m := by rw [hmm]; split <;> omega
    have key : ∀ i, i < n → ∀ j, j < k → ∃ z : Int, w.cell? (a.add (i * k + j)) = some (.int .i64 z) := by
      intro i hin j hj
      obtain ⟨cs', hc, htr⟩ := hi i (by omega)
      rw [hC] at hc
      obtain ⟨_, hcl, hat⟩ := World.cells?_some hc
      obtain ⟨ys, n2, _, hy, hlen, hyl, hf⟩ := DataW.trod_struct he htr
      obtain ⟨f, hfj, hoff, hone, hund⟩ := hint j hj
      have h1 := hf j f hfj
      rw [hoff, hone] at h1
      have hjc : j < cs'.length := by omega
      have hsl : (cs'.drop j).take 1 = [cs'[j]] := by rw [List.drop_eq_getElem_cons hjc]; rfl
      rw [hsl] at h1
      have hys : ys[j]? = some (ys[j]'(by omega)) := List.getElem?_eq_getElem (by omega)
      obtain ⟨z, hz, _, _⟩ := DataW.trod_int hund (h1.trans hys)
      simp at hz
      refine ⟨z, ?_⟩
      have := hat j (by omega)
      rw [Go.Deep.add_add, List.getElem?_eq_getElem hjc, hz] at this
      exact this
    obtain ⟨z0, hz0⟩ := key 0 (by omega) 0 hk
    have hsp : a.spot = none := by simpa [Addr.add] using World.cell?_spot hz0
    obtain ⟨b, o, s⟩ := a
    simp only at hsp
    subst hsp
    have hblk : b < w.heap.size := by
      have := World.block_lt_of_cell? _ _ hz0
      rwa [Addr.add_lit] at this
    have hex : ∀ i j, ∃ z : Int, i < n → j < k → w.cell? ⟨b, o + i * k + j, none⟩ = some (.int .i64 z) := by
      intro i j
      by_cases hi : i < n
      · by_cases hj : j < k
        · obtain ⟨z, hz⟩ := key i hi j hj
          refine ⟨z, fun _ _ => ?_⟩
          rw [Addr.add_lit, ← Nat.add_assoc] at hz
          exact hz
        · exact ⟨0, fun _ h => absurd h hj⟩
      · exact ⟨0, fun h => absurd h hi⟩
    exact ⟨b, o, rfl, hblk, fun i j => Classical.choose (hex i j), fun i hi j hj => Classical.choose_spec (hex i j) hi hj⟩
/-- A slice of pairs of integers. -/
theorem open_pairs {t e : TypeId} {f0 f1 : Field} {fuel : Nat} {A : Option Addr} {n c : Nat} {x : DataW H × List MemPlace} (ht : P.underlying t = some (.slice e)) (he : P.underlying e = some (.struct #[f0, f1])) (hC : P.cellsOf e = 2)
    (h0 : f0.offset = 0 ∧ P.cellsOf f0.type = 1 ∧ P.underlying f0.type = some (.int .i64)) (h1 : f1.offset = 1 ∧ P.cellsOf f1.type = 1 ∧ P.underlying f1.type = some (.int .i64))
    (h : DataW.trod enc P w base spare held fuel t [.slice A n c] = some x) : n ≤ maxLen ∧ ∃ L : List (Int × Int), n = L.length ∧ RdP w w.heap.size A L := by
  obtain ⟨hm, h⟩ := open_recs 2 (by omega) ht he rfl hC (fun j hj => by
    match j, hj with
    | 0, _ => exact ⟨f0, rfl, h0⟩
    | 1, _ => exact ⟨f1, rfl, h1⟩) h
  refine ⟨hm, ?_⟩
  rcases h with rfl | ⟨b, o, rfl, hb, f, hf⟩
  · exact ⟨[], rfl, .inl rfl⟩
  · refine ⟨(List.range n).map fun i => (f i 0, f i 1), by simp, .inr ⟨b, o, rfl, hb, fun i hi => ?_⟩⟩
    simp at hi
    have e0 := hf i hi 0 (by omega)
    have e1 := hf i hi 1 (by omega)
    simp only [Nat.add_zero] at e0
    rw [e0, e1]
    simp [pa, pb, hi]
/-- A slice of integers. -/
theorem open_ints_list {t e : TypeId} {fuel : Nat} {A : Option Addr} {n c : Nat} {x : DataW H × List MemPlace} (ht : P.underlying t = some (.slice e)) (he : P.underlying e = some (.int .i64)) (hC : P.cellsOf e = 1)
    (h : DataW.trod enc P w base spare held fuel t [.slice A n c] = some x) : n ≤ maxLen ∧ ∃ L : List Int, n = L.length ∧ RdI w w.heap.size A L ∧ ∀ x ∈ L, (Lit.int .i64 x).wf = true := by
  rcases open_slice ht h with ⟨h0, _⟩ | ⟨a, len, cap, m, n', D, Pl, hcs, hb, hl, hm, hmm, hx, hi⟩
  · simp at h0
    exact ⟨by omega, [], h0.2.1, .inl rfl, by simp⟩
  · simp at hcs
    obtain ⟨rfl, rfl, rfl⟩ := hcs
    refine ⟨Nat.le_trans hl hm, ?_⟩
    by_cases hn : n = 0
    · exact ⟨[], hn, .inl rfl, by simp⟩
    have hmn : n ≤ m := by rw [hmm]; split <;> omega
    have key : ∀ i, i < n → ∃ z : Int, w.cell? (a.add i) = some (.int .i64 z) ∧ (Lit.int .i64 z).wf = true := by
      intro i hin
      obtain ⟨cs', hc, htr⟩ := hi i (by omega)
      rw [hC] at hc
      obtain ⟨_, hcl, hat⟩ := World.cells?_some hc
      obtain ⟨z, hz, _, hw⟩ := DataW.trod_int he htr
      have hc0 : cs' = [.int .i64 z] := by simpa using hz
      subst hc0
      have := hat 0 (by simp)
      refine ⟨z, ?_, hw⟩
      simpa [Go.Deep.add_add, Nat.mul_one] using this
    obtain ⟨z0, hz0, _⟩ := key 0 (by omega)
    have hsp : a.spot = none := by simpa [Addr.add] using World.cell?_spot hz0
    obtain ⟨b, o, s⟩ := a
    simp only at hsp
    subst hsp
    have hblk : b < w.heap.size := by
      have := World.block_lt_of_cell? _ _ hz0
      rwa [Addr.add_lit] at this
    have hex : ∀ i, ∃ z : Int, i < n → w.cell? ⟨b, o + i, none⟩ = some (.int .i64 z) ∧ (Lit.int .i64 z).wf = true := by
      intro i
      by_cases hi : i < n
      · obtain ⟨z, hz, hw⟩ := key i hi
        refine ⟨z, fun _ => ⟨?_, hw⟩⟩
        rw [Addr.add_lit] at hz
        exact hz
      · exact ⟨0, fun h => absurd h hi⟩
    refine ⟨(List.range n).map fun i => Classical.choose (hex i), by simp, .inr ⟨b, o, rfl, hblk, fun i hi => ?_⟩, ?_⟩
    · simp at hi
      rw [(Classical.choose_spec (hex i) hi).1]
      simp [ix, hi]
    · intro y hy
      simp only [List.mem_map, List.mem_range] at hy
      obtain ⟨i, hi, rfl⟩ := hy
      exact (Classical.choose_spec (hex i) hi).2
/-- An array of integers by value. -/
theorem open_arr {P : Program} {w : World} {r : Reach} {b0 : Nat} {k : IntKind} {n : Nat} {T E : TypeId} {fuel : Nat} {v : Value} {x : DataW H × List MemPlace} (hT : P.underlying T = some (.array n E)) (hE : P.underlying E = some (.int k)) (hC : P.cellsOf T = n) (hCE : P.cellsOf E = 1)
    (hok : Value.okWide P w r b0 T v) (h : DataW.trod enc P w base spare held fuel T v.cells.toList = some x) :
    ∃ zs : List Int, zs.length = n ∧ v = .agg (zs.map (Value.int k)).toArray ∧ ∀ z ∈ zs, (Lit.int k z).wf = true := by
  have hv : ∃ cs, v = .agg cs ∧ cs.size = n := by
    simp only [Value.okWide, hT] at hok
    obtain ⟨cs, h1, h2, _⟩ := hok
    exact ⟨cs, h1, h2.trans hC⟩
  obtain ⟨⟨cs⟩, rfl, hs⟩ := hv
  simp only [List.size_toArray] at hs
  obtain ⟨xs, m, _, _, _, hxl, hx⟩ := DataW.trod_array hT h
  rw [hCE] at hx
  have key : ∀ i (hi : i < cs.length), ∃ z : Int, cs[i] = .int k z ∧ (Lit.int k z).wf = true := by
    intro i hi
    have h1 := hx i (by omega)
    simp only [Value.cells, Nat.mul_one] at h1
    have hsl : (cs.drop i).take 1 = [cs[i]] := by rw [List.drop_eq_getElem_cons hi]; rfl
    rw [hsl] at h1
    have hys : xs[i]? = some (xs[i]'(by omega)) := List.getElem?_eq_getElem (by omega)
    obtain ⟨z, hz, _, hw⟩ := DataW.trod_int hE (h1.trans hys)
    simp at hz
    exact ⟨z, hz, hw⟩
  have hall : ∀ cs : List Value, (∀ i (hi : i < cs.length), ∃ z : Int, cs[i] = .int k z ∧ (Lit.int k z).wf = true) → ∃ zs : List Int, cs = zs.map (Value.int k) ∧ ∀ z ∈ zs, (Lit.int k z).wf = true := by
    intro cs
    induction cs with
    | nil => intro _; exact ⟨[], rfl, by simp⟩
    | cons c cs ih =>
      intro hc
      obtain ⟨z, hz, hw⟩ := hc 0 (by simp)
      obtain ⟨zs, hzs, hws⟩ := ih fun i hi => hc (i + 1) (by simp; omega)
      simp at hz
      refine ⟨z :: zs, by rw [hz, hzs]; rfl, ?_⟩
      intro y hy
      rcases List.mem_cons.1 hy with rfl | hy
      · exact hw
      · exact hws y hy
  obtain ⟨zs, hzs, hw⟩ := hall cs key
  exact ⟨zs, by rw [← hs, hzs]; simp, by rw [hzs], hw⟩
/-- A cell that reads as a slice of integers. -/
theorem open_ints_any {t e : TypeId} {fuel : Nat} {v : Value} {x : DataW H × List MemPlace} (ht : P.underlying t = some (.slice e)) (he : P.underlying e = some (.int .i64)) (hC : P.cellsOf e = 1)
    (h : DataW.trod enc P w base spare held fuel t [v] = some x) : ∃ (A : Option Addr) (c : Nat) (L : List Int), v = .slice A L.length c ∧ L.length ≤ maxLen ∧ RdI w w.heap.size A L ∧ ∀ x ∈ L, (Lit.int .i64 x).wf = true := by
  have hv : ∃ A n c, v = .slice A n c := by
    rcases open_slice ht h with ⟨h0, _⟩ | ⟨a, len, cap, m, n', D, Pl, hcs, _⟩
    · simp at h0; exact ⟨none, 0, 0, h0⟩
    · simp at hcs; exact ⟨some a, len, cap, hcs⟩
  obtain ⟨A, n, c, rfl⟩ := hv
  obtain ⟨hm, L, rfl, hr, hw⟩ := open_ints_list ht he hC h
  exact ⟨A, c, L, rfl, hm, hr, hw⟩
/-- An array of two slices of integers by value. -/
theorem open_arr2_ints {r : Reach} {b0 : Nat} {T E I : TypeId} {fuel : Nat} {v : Value} {x : DataW H × List MemPlace} (hT : P.underlying T = some (.array 2 E)) (hE : P.underlying E = some (.slice I)) (hI : P.underlying I = some (.int .i64)) (hC : P.cellsOf T = 2) (hCE : P.cellsOf E = 1) (hCI : P.cellsOf I = 1)
    (hok : Value.okWide P w r b0 T v) (h : DataW.trod enc P w base spare held fuel T v.cells.toList = some x) :
    ∃ (A0 : Option Addr) (c0 : Nat) (L0 : List Int) (A1 : Option Addr) (c1 : Nat) (L1 : List Int), v = .agg #[.slice A0 L0.length c0, .slice A1 L1.length c1] ∧ (L0.length ≤ maxLen ∧ RdI w w.heap.size A0 L0 ∧ ∀ x ∈ L0, (Lit.int .i64 x).wf = true) ∧ L1.length ≤ maxLen ∧ RdI w w.heap.size A1 L1 ∧ ∀ x ∈ L1, (Lit.int .i64 x).wf = true := by
  have hv : ∃ cs, v = .agg cs ∧ cs.size = 2 := by
    simp only [Value.okWide, hT] at hok
    obtain ⟨cs, h1, h2, _⟩ := hok
    exact ⟨cs, h1, h2.trans hC⟩
  obtain ⟨⟨cs⟩, rfl, hs⟩ := hv
  simp only [List.size_toArray] at hs
  obtain ⟨xs, m, _, _, _, hxl, hx⟩ := DataW.trod_array hT h
  rw [hCE] at hx
  match cs, hs with
  | [p, q], _ =>
    have h0 := hx 0 (by omega)
    have h1 := hx 1 (by omega)
    simp only [Value.cells, Nat.mul_one, List.drop_zero, List.take_succ_cons, List.take_zero, List.drop_succ_cons] at h0 h1
    have k0 : xs[0]? = some (xs[0]'(by omega)) := List.getElem?_eq_getElem (by omega)
    have k1 : xs[1]? = some (xs[1]'(by omega)) := List.getElem?_eq_getElem (by omega)
    obtain ⟨A0, c0, L0, rfl, m0, r0, w0⟩ := open_ints_any hE hI hCI (h0.trans k0)
    obtain ⟨A1, c1, L1, rfl, m1, r1, w1⟩ := open_ints_any hE hI hCI (h1.trans k1)
    exact ⟨A0, c0, L0, A1, c1, L1, rfl, ⟨m0, r0, w0⟩, m1, r1, w1⟩
theorem open_arr2 {P : Program} {w : World} {r : Reach} {b0 : Nat} {k : IntKind} {T E : TypeId} {fuel : Nat} {v : Value} {x : DataW H × List MemPlace} (hT : P.underlying T = some (.array 2 E)) (hE : P.underlying E = some (.int k)) (hC : P.cellsOf T = 2) (hCE : P.cellsOf E = 1)
    (hok : Value.okWide P w r b0 T v) (h : DataW.trod enc P w base spare held fuel T v.cells.toList = some x) :
    ∃ x0 x1 : Int, v = .agg #[.int k x0, .int k x1] ∧ (Lit.int k x0).wf = true ∧ (Lit.int k x1).wf = true := by
  obtain ⟨zs, hl, hv, hw⟩ := open_arr hT hE hC hCE hok h
  match zs, hl with
  | [a, b], _ => exact ⟨a, b, hv, hw a (by simp), hw b (by simp)⟩
theorem open_arr3 {P : Program} {w : World} {r : Reach} {b0 : Nat} {k : IntKind} {T E : TypeId} {fuel : Nat} {v : Value} {x : DataW H × List MemPlace} (hT : P.underlying T = some (.array 3 E)) (hE : P.underlying E = some (.int k)) (hC : P.cellsOf T = 3) (hCE : P.cellsOf E = 1)
    (hok : Value.okWide P w r b0 T v) (h : DataW.trod enc P w base spare held fuel T v.cells.toList = some x) :
    ∃ x0 x1 x2 : Int, v = .agg #[.int k x0, .int k x1, .int k x2] ∧ (Lit.int k x0).wf = true ∧ (Lit.int k x1).wf = true ∧ (Lit.int k x2).wf = true := by
  obtain ⟨zs, hl, hv, hw⟩ := open_arr hT hE hC hCE hok h
  match zs, hl with
  | [a, b, c], _ => exact ⟨a, b, c, hv, hw a (by simp), hw b (by simp), hw c (by simp)⟩
end
end Go.Proofs.YtkjiancdhaocaaaDoor
