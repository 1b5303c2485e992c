/- Slices of slices of integers: how they read, and how a parameter of that type is opened. -/
import Derived.Test.YtnodeooammplfaaFrame
namespace Go.Proofs.Ytnodeooammplfaa
open Go.ChangeShapes Go.WideShapes Go.ChangeAt Go.RowKit Go.Deep
set_option linter.unusedSimpArgs false
set_option linter.unusedVariables false

/-- the k-th list -/
def lx (Es : List (List Int)) (k : Nat) : List Int := Es.getD k []
def RdL (w : World) (B : Nat) (A : Option Addr) (Es : List (List Int)) : Prop :=
  Es = [] ∨ ∃ b o, A = some ⟨b, o, none⟩ ∧ b < B ∧ ∀ k, k < Es.length → ∃ A' c', w.cell? ⟨b, o + k, none⟩ = some (.slice A' (lx Es k).length c') ∧ RdI w B A' (lx Es k)
theorem RdL.keep {w w' : World} {B : Nat} {A : Option Addr} {Es : List (List Int)} (h : RdL w B A Es) (hb : Below B w w') : RdL w' B A Es := by
  rcases h with h | ⟨b, o, h1, h2, h3⟩
  · exact .inl h
  · refine .inr ⟨b, o, h1, h2, fun k hk => ?_⟩
    obtain ⟨A', c', h4, h5⟩ := h3 k hk
    exact ⟨A', c', (hb.cell (p := ⟨b, o + k, none⟩) h2).trans h4, h5.keep hb⟩
theorem RdL.more {w : World} {B B' : Nat} {A : Option Addr} {Es : List (List Int)} (h : RdL w B A Es) (hb : B ≤ B') : RdL w B' A Es := by
  rcases h with h | ⟨b, o, h1, h2, h3⟩
  · exact .inl h
  · refine .inr ⟨b, o, h1, by omega, fun k hk => ?_⟩
    obtain ⟨A', c', h4, h5⟩ := h3 k hk
    exact ⟨A', c', h4, h5.more hb⟩
theorem RdL.on {w w' : World} {A : Option Addr} {Es : List (List Int)} (h : RdL w w.heap.size A Es) (hb : Below w.heap.size w w') : RdL w' w'.heap.size A Es := (h.keep hb).more hb.size
theorem RdL.at_ {w : World} {B : Nat} {A : Option Addr} {Es : List (List Int)} (h : RdL w B A Es) {k : Nat} (hk : k < Es.length) :
    ∃ b o A' c', A = some ⟨b, o, none⟩ ∧ b < B ∧ w.cell? ⟨b, o + k, none⟩ = some (.slice A' (lx Es k).length c') ∧ RdI w B A' (lx Es k) := by
  rcases h with rfl | ⟨b, o, h1, h2, h3⟩
  · simp at hk
  · obtain ⟨A', c', h4, h5⟩ := h3 k hk
    exact ⟨b, o, A', c', h1, h2, h4, h5⟩

section
variable {H : Type} {enc : TypeId × Value → H} {P : Program} {w : World} {base : Nat} {spare : Nat → Bool} {held : Bool}
/-- A slice of slices of integers. -/
theorem open_intss {t e e2 : TypeId} {fuel : Nat} {A : Option Addr} {n c : Nat} {x : DataW H × List MemPlace} (ht : P.underlying t = some (.slice e)) (he : P.underlying e = some (.slice e2)) (he2 : P.underlying e2 = some (.int .i64)) (hC : P.cellsOf e = 1) (hC2 : P.cellsOf e2 = 1)
    (h : DataW.trod enc P w base spare held fuel t [.slice A n c] = some x) : n ≤ maxLen ∧ ∃ Es : List (List Int), n = Es.length ∧ RdL w w.heap.size A Es ∧ ∀ l ∈ Es, l.length ≤ maxLen := by
  rcases open_slice ht h with ⟨h0, _⟩ | ⟨a, len, cap, m, n', D, Pl, hcs, hb, hl, hm, hmm, hx, hi⟩
  · simp at h0
    exact ⟨by omega, [], h0.2.1, .inl rfl, by simp⟩
  · simp at hcs
    obtain ⟨rfl, rfl, rfl⟩ := hcs
    refine ⟨Nat.le_trans hl hm, ?_⟩
    by_cases hn : n = 0
    · exact ⟨[], hn, .inl rfl, by simp⟩
    have hmn : n ≤ m := by rw [hmm]; split <;> omega
    have key : ∀ i, i < n → ∃ (A' : Option Addr) (c' : Nat) (l : List Int), w.cell? (a.add i) = some (.slice A' l.length c') ∧ l.length ≤ maxLen ∧ RdI w w.heap.size A' l := by
      intro i hin
      obtain ⟨cs', hc, htr⟩ := hi i (by omega)
      rw [hC] at hc
      obtain ⟨hln, hcl, hat⟩ := World.cells?_some hc
      obtain ⟨v0, rfl⟩ : ∃ v0, cs' = [v0] := by
        match cs', hln with
        | [v], _ => exact ⟨v, rfl⟩
      obtain ⟨A', c', l, rfl, h1, h2, _⟩ := open_ints_any he he2 hC2 htr
      have := hat 0 (by simp)
      refine ⟨A', c', l, ?_, h1, h2⟩
      simpa [Go.Deep.add_add, Nat.mul_one] using this
    obtain ⟨A0, c0, l0, hz0, _⟩ := key 0 (by omega)
    have hsp : a.spot = none := by simpa [Addr.add] using World.cell?_spot hz0
    obtain ⟨b, o, s⟩ := a
    simp only at hsp
    subst hsp
    have hblk : b < w.heap.size := by
      have := World.block_lt_of_cell? _ _ hz0
      rwa [Addr.add_lit] at this
    have hex : ∀ i, ∃ l : List Int, i < n → ∃ (A' : Option Addr) (c' : Nat), w.cell? ⟨b, o + i, none⟩ = some (.slice A' l.length c') ∧ l.length ≤ maxLen ∧ RdI w w.heap.size A' l := by
      intro i
      by_cases hi : i < n
      · obtain ⟨A', c', l, hz, h1, h2⟩ := key i hi
        rw [Addr.add_lit] at hz
        exact ⟨l, fun _ => ⟨A', c', hz, h1, h2⟩⟩
      · exact ⟨[], fun h => absurd h hi⟩
    refine ⟨(List.range n).map fun i => Classical.choose (hex i), by simp, .inr ⟨b, o, rfl, hblk, fun i hi => ?_⟩, ?_⟩
    · simp at hi
      obtain ⟨A', c', h1, _, h3⟩ := Classical.choose_spec (hex i) hi
      have e : lx ((List.range n).map fun i => Classical.choose (hex i)) i = Classical.choose (hex i) := by simp [lx, hi]
      rw [e]
      exact ⟨A', c', h1, h3⟩
    · intro y hy
      simp only [List.mem_map, List.mem_range] at hy
      obtain ⟨i, hi, rfl⟩ := hy
      obtain ⟨A', c', _, h2, _⟩ := Classical.choose_spec (hex i) hi
      exact h2
end
end Go.Proofs.Ytnodeooammplfaa
