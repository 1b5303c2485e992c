/- Walks over alert and its reference: tasks that are the same; Kept of the reference; Moved and Turned. -/
import Derived.Test.YtdafiblnanpiiaaAlMv
namespace Go.Proofs.Ytdafiblnanpiiaa
open Go.RowKit
set_option linter.unusedSimpArgs false
set_option linter.unusedVariables false

theorem SameTasks_any (A : Option Addr) (c : Nat) (A2 : Option Addr) (c2 : Nat) (l : List (Int × Int × Int)) (w : World) (hr : RdT w w.heap.size A l) (hr2 : RdT w w.heap.size A2 l) (hl : l.length ≤ 1000000) :
    Calls Try.prog 43 #[.slice A l.length c, .slice A2 l.length c2] w fun e w' => e = .returned (.bool true) ∧ Below w.heap.size w w' := by
  have HR := Lib.hid hr
  have HR2 := Lib.hid hr2
  clear hr hr2
  generalize hn : l.length = n at *
  have HN := Lib.hid hn; clear hn
  go_enter Try.func43, Try.ntmps43
  go_wp2
  go_loopg [5] n (fun k t wr => ∃ i : Nat, t = .int .i64 i ∧ i ≤ n ∧ n - i ≤ k ∧ Below w.heap.size w wr)
  case atStart => exact ⟨0, rfl, by omega, by omega, Below.refl _ _⟩
  case round =>
    obtain ⟨i, rfl, hi, hk, hB⟩ := hrel
    by_cases hlt : i < n
    · obtain ⟨b1, o1, rfl, hb1, c1, c2, c3⟩ := HR.out.at_ (k := i) (by rw [HN.out]; exact hlt)
      obtain ⟨b2, o2, rfl, hb2, d1, d2, d3⟩ := HR2.out.at_ (k := i) (by rw [HN.out]; exact hlt)
      rw [← hB.cell hb1] at c1 c2 c3
      rw [← hB.cell hb2] at d1 d2 d3
      generalize ta l i = x at *
      generalize tb l i = y at *
      generalize tc l i = z at *
      have HB := Lib.hid hB
      clear hB
      go_wp2
      go_quiet (fail)
      go_wp2
      go_roundg (n - (i + 1))
      case measure => omega
      case rel => exact ⟨i + 1, by go_num, by omega, by omega, HB.out.drewsN _⟩
    · obtain rfl : n = i := by omega
      go_wp2
      go_ret
      exact ⟨rfl, hB⟩

/-! ### Turned -/
def halfT (f : Int × Int × Int → Int × Int × Int) (L : List (Int × Int × Int)) (i : Nat) : List (Int × Int × Int) := (List.range L.length).map fun k => if k < i then f (tx L k) else tx L k
theorem halfT_len (f : Int × Int × Int → Int × Int × Int) (L : List (Int × Int × Int)) (i : Nat) : (halfT f L i).length = L.length := by simp [halfT]
theorem halfT_zero (f : Int × Int × Int → Int × Int × Int) (L : List (Int × Int × Int)) : halfT f L 0 = L := by
  apply List.ext_getElem
  · simp [halfT]
  · intro i h1 h2; simp [halfT, tx_get h2]
theorem halfT_all (f : Int × Int × Int → Int × Int × Int) (L : List (Int × Int × Int)) : halfT f L L.length = L.map f := by
  apply List.ext_getElem
  · simp [halfT]
  · intro i h1 h2
    have hi : i < L.length := by simpa using h2
    simp [halfT, hi, tx_get hi]
theorem halfT_succ (f : Int × Int × Int → Int × Int × Int) {L : List (Int × Int × Int)} {i : Nat} (hi : i < L.length) : halfT f L (i + 1) = (halfT f L i).set i (f (tx L i)) := by
  apply List.ext_getElem
  · simp [halfT]
  · intro k h1 h2
    rw [List.getElem_set]
    simp only [halfT, List.getElem_map, List.getElem_range]
    by_cases e : i = k
    · subst e; rw [if_pos (by omega), if_pos rfl]
    · rw [if_neg e]
      by_cases h : k < i
      · rw [if_pos (by omega), if_pos h]
      · rw [if_neg (by omega), if_neg h]
theorem halfT_at (f : Int × Int × Int → Int × Int × Int) {L : List (Int × Int × Int)} {i : Nat} (hi : i < L.length) : ta (halfT f L i) i = ta L i ∧ tb (halfT f L i) i = tb L i ∧ tc (halfT f L i) i = tc L i := by
  have e : (halfT f L i).getD i (0, 0, 0) = tx L i := by simp [halfT, hi]
  unfold ta tb tc
  rw [e]
  exact ⟨rfl, rfl, rfl⟩
theorem set_two {M : List (Int × Int × Int)} {i : Nat} (hi : i < M.length) (x y : Int) :
    (M.set i (x, tb M i, tc M i)).set i (ta (M.set i (x, tb M i, tc M i)) i, y, tc (M.set i (x, tb M i, tc M i)) i) = M.set i (x, y, tc M i) := by
  rw [List.set_set]
  simp [ta, tc, hi]
theorem OwnT.set2 {w : World} {B : Nat} {e : TypeId} {g n c : Nat} {l : List (Int × Int × Int)} (h : OwnT w B e (.slice (some ⟨g, 0, none⟩) n c) l) (k : Nat) (x y : Int) (hk : k < l.length) :
    OwnT ((w.setCell ⟨g, k * 3, none⟩ (.int .i64 x)).setCell ⟨g, k * 3 + 1, none⟩ (.int .i64 y)) B e (.slice (some ⟨g, 0, none⟩) n c) (l.set k (x, y, tc l k)) := by
  have h1 := h.setT k 0 x hk (by decide)
  have h2 := h1.setT k 1 y (by rw [List.length_set]; exact hk) (by decide)
  simp only [Nat.add_zero, if_pos] at h2
  have e : ((l.set k (x, tb l k, tc l k)).set k (ta (l.set k (x, tb l k, tc l k)) k, y, tc (l.set k (x, tb l k, tc l k)) k)) = l.set k (x, y, tc l k) := set_two hk x y
  rw [← e]
  simpa using h2
theorem OwnT.set2' {w : World} {B : Nat} {e : TypeId} {g n c : Nat} {l : List (Int × Int × Int)} (h : OwnT w B e (.slice (some ⟨g, 0, none⟩) n c) l) (k : Nat) (x y : Int) (hk : k < l.length) :
    OwnT ((w.setCell ⟨g, k * 3 + 1, none⟩ (.int .i64 y)).setCell ⟨g, k * 3, none⟩ (.int .i64 x)) B e (.slice (some ⟨g, 0, none⟩) n c) (l.set k (x, y, tc l k)) := by
  have h1 := h.setT k 1 y hk (by decide)
  have h2 := h1.setT k 0 x (by rw [List.length_set]; exact hk) (by decide)
  have e : ((l.set k (ta l k, y, tc l k)).set k (x, tb (l.set k (ta l k, y, tc l k)) k, tc (l.set k (ta l k, y, tc l k)) k)) = l.set k (x, y, tc l k) := by
    rw [List.set_set]; simp [tb, tc, hk]
  rw [← e]
  simpa using h2
theorem set_cong (M : List (Int × Int × Int)) (i : Nat) (x y z : Int) (h : tc M i = z) : M.set i (x, y, tc M i) = M.set i (x, y, z) := by rw [h]
end Go.Proofs.Ytdafiblnanpiiaa
