/- How the arguments of a law are opened: a slice of bytes. -/
import Derived.Test.YteodljaphkpimaaDoorFrame
import Derived.Test.YteodljaphkpimaaDoorLibY
namespace Go.Proofs.YteodljaphkpimaaDoor
set_option linter.unusedVariables false
open Go.ChangeShapes Go.WideShapes Go.ChangeAt Go.RowKit Go.Deep

section
variable {H : Type} {enc : TypeId × Value → H} {P : Program} {w : World} {base : Nat} {spare : Nat → Bool} {held : Bool}
/-- A slice of bytes. -/
theorem open_bytes_list {t e : TypeId} {fuel : Nat} {A : Option Addr} {n c : Nat} {x : DataW H × List MemPlace} (ht : P.underlying t = some (.slice e)) (he : P.underlying e = some (.int .u8)) (hC : P.cellsOf e = 1)
    (h : DataW.trod enc P w base spare held fuel t [.slice A n c] = some x) : n ≤ maxLen ∧ ∃ L : List Int, n = L.length ∧ RdY w w.heap.size A L ∧ ∀ x ∈ L, (Lit.int .u8 x).wf = true := by
  rcases open_slice ht h with ⟨h0, _⟩ | ⟨a, len, cap, m, n', D, Pl, hcs, hb, hl, hm, hmm, hx, hi⟩
  · simp at h0
    exact ⟨by omega, [], h0.2.1, .inl rfl, by simp⟩
  · simp at hcs
    obtain ⟨rfl, rfl, rfl⟩ := hcs
    refine ⟨Nat.le_trans hl hm, ?_⟩
    by_cases hn : n = 0
    · exact ⟨[], hn, .inl rfl, by simp⟩
    have hmn : n ≤ m := by rw [hmm]; split <;> omega
    have key : ∀ i, i < n → ∃ z : Int, w.cell? (a.add i) = some (.int .u8 z) ∧ (Lit.int .u8 z).wf = true := by
      intro i hin
      obtain ⟨cs', hc, htr⟩ := hi i (by omega)
      rw [hC] at hc
      obtain ⟨_, hcl, hat⟩ := World.cells?_some hc
      obtain ⟨z, hz, _, hw⟩ := DataW.trod_int he htr
      have hc0 : cs' = [.int .u8 z] := by simpa using hz
      subst hc0
      have := hat 0 (by simp)
      refine ⟨z, ?_, hw⟩
      simpa [Go.Deep.add_add, Nat.mul_one] using this
    obtain ⟨z0, hz0, _⟩ := key 0 (by omega)
    have hsp : a.spot = none := by simpa [Addr.add] using World.cell?_spot hz0
    obtain ⟨b, o, s⟩ := a
    simp only at hsp
    subst hsp
    have hblk : b < w.heap.size := by
      have := World.block_lt_of_cell? _ _ hz0
      rwa [Addr.add_lit] at this
    have hex : ∀ i, ∃ z : Int, i < n → w.cell? ⟨b, o + i, none⟩ = some (.int .u8 z) ∧ (Lit.int .u8 z).wf = true := by
      intro i
      by_cases hi : i < n
      · obtain ⟨z, hz, hw⟩ := key i hi
        refine ⟨z, fun _ => ⟨?_, hw⟩⟩
        rw [Addr.add_lit] at hz
        exact hz
      · exact ⟨0, fun h => absurd h hi⟩
    refine ⟨(List.range n).map fun i => Classical.choose (hex i), by simp, .inr ⟨b, o, rfl, hblk, fun i hi => ?_⟩, ?_⟩
    · simp at hi
      rw [(Classical.choose_spec (hex i) hi).1]
      simp [ix, hi]
    · intro y hy
      simp only [List.mem_map, List.mem_range] at hy
      obtain ⟨i, hi, rfl⟩ := hy
      exact (Classical.choose_spec (hex i) hi).2
end
end Go.Proofs.YteodljaphkpimaaDoor
