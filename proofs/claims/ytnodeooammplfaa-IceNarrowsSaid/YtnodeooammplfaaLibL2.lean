/- Slices of slices: one of them as a slice of its own, a literal of one, and how such a parameter is opened. -/
import Derived.Test.YtnodeooammplfaaLibL
namespace Go.Proofs.Ytnodeooammplfaa
open Go.ChangeShapes Go.WideShapes Go.ChangeAt Go.RowKit Go.Deep
set_option linter.unusedSimpArgs false
set_option linter.unusedVariables false

theorem open_cap2 {H : Type} {enc : TypeId × Value → H} {P : Program} {w : World} {base : Nat} {spare : Nat → Bool} {held : Bool} {t e : TypeId} {fuel : Nat} {A : Option Addr} {n c : Nat} {x : DataW H × List MemPlace} (ht : P.underlying t = some (.slice e))
    (h : DataW.trod enc P w base spare held fuel t [.slice A n c] = some x) : n ≤ c ∧ c ≤ maxLen := by
  rcases open_slice ht h with ⟨h0, _⟩ | ⟨a, len, cap, m, n', D, Pl, hcs, hb, hl, hm, hmm, hx, hi⟩
  · simp at h0
    exact ⟨by omega, by rw [h0.2.2]; exact Nat.zero_le _⟩
  · simp at hcs
    obtain ⟨rfl, rfl, rfl⟩ := hcs
    exact ⟨hl, hm⟩
theorem lx_one (l : List Int) : lx [l] 0 = l := rfl
/-- s[m:m+1] -/
theorem RdL.sub {w : World} {B b o m : Nat} {Es : List (List Int)} (h : RdL w B (some ⟨b, o, none⟩) Es) (hm : m < Es.length) : RdL w B (some ⟨b, o + m, none⟩) [lx Es m] := by
  obtain ⟨b', o', A', c', e, hb, hc, hr⟩ := h.at_ hm
  obtain ⟨rfl, rfl⟩ : b = b' ∧ o = o' := by injection e with e; injection e with e1 e2; exact ⟨e1, e2⟩
  refine .inr ⟨b, o + m, rfl, hb, fun k hk => ?_⟩
  have hk0 : k = 0 := by simpa using hk
  subst hk0
  exact ⟨A', c', by rw [Nat.add_zero, lx_one]; exact hc, by rw [lx_one]; exact hr⟩
/-- [][]int{l} -/
theorem RdL.one {W : World} {g c : Nat} {e : TypeId} {A : Option Addr} {l : List Int} (h : Box W g e #[.slice A l.length c]) (hg : g < W.heap.size) (hr : RdI W W.heap.size A l) : RdL W W.heap.size (some ⟨g, 0, none⟩) [l] := by
  refine .inr ⟨g, 0, rfl, hg, fun k hk => ?_⟩
  have hk0 : k = 0 := by simpa using hk
  subst hk0
  exact ⟨A, c, by rw [lx_one]; exact h.cell 0, by rw [lx_one]; exact hr⟩
end Go.Proofs.Ytnodeooammplfaa
