/- Coarse cells and single cells: plain. -/
import Derived.Test.YtolgpigdioanoaaSkyLa
import Derived.Test.YtolgpigdioanoaaSkyEb
namespace Go.Proofs.Ytolgpigdioanoaa
set_option linter.unusedSimpArgs false
set_option linter.unusedVariables false

/-! ### the pixels of one cell -/
theorem inC_block {h q x : Nat} : inC (4 - (h : Int), (q : Int)) x = true ↔ q * 4 ^ h ≤ x ∧ x < q * 4 ^ h + 4 ^ h := by
  have hp := four_pos h
  rw [inC_mk, decide_eq_true_eq, Nat.div_eq_iff hp]
  omega
theorem child_of {q H h p : Nat} (hlt : h ≤ H) (e : q / 4 ^ (H + 1 - h) = p) : ∃ k, k < 4 ∧ q / 4 ^ (H - h) = 4 * p + k := by
  have e2 : q / 4 ^ (H - h) / 4 = p := by rw [Nat.div_div_eq_div_mul, ← Nat.pow_succ, show (H - h).succ = H + 1 - h by omega]; exact e
  exact ⟨q / 4 ^ (H - h) - 4 * p, by omega, by omega⟩
theorem in_child {q H h P : Nat} (hlt : h ≤ H) (hk : q / 4 ^ (H - h) = P) : P * 4 ^ H ≤ q * 4 ^ h ∧ q * 4 ^ h + 4 ^ h ≤ P * 4 ^ H + 4 ^ H := by
  have hq1 : P * 4 ^ (H - h) ≤ q := by rw [← hk]; exact Nat.div_mul_le_self _ _
  have hq2 : q < P * 4 ^ (H - h) + 4 ^ (H - h) := by
    have := Nat.lt_mul_div_succ q (four_pos (H - h))
    rw [hk, Nat.mul_comm, Nat.add_mul, Nat.one_mul] at this
    exact this
  constructor
  · have := Nat.mul_le_mul_right (4 ^ h) hq1
    rw [Nat.mul_assoc, ← Nat.pow_add, show H - h + h = H by omega] at this
    exact this
  · have := Nat.mul_le_mul_right (4 ^ h) (show q + 1 ≤ P * 4 ^ (H - h) + 4 ^ (H - h) from hq2)
    rw [Nat.add_mul, Nat.add_mul, Nat.mul_assoc, ← Nat.pow_add, show H - h + h = H by omega, Nat.one_mul] at this
    exact this
theorem look_apart {U : Px} {h q H P : Nat} (h1 : q * 4 ^ h + 4 ^ h ≤ P * 4 ^ H ∨ P * 4 ^ H + 4 ^ H ≤ q * 4 ^ h) : lookC (fun x => U x && inC (4 - (h : Int), (q : Int)) x) H P = [] := look_none (anyP_no.2 fun i hi => by
  have : inC (4 - (h : Int), (q : Int)) (P * 4 ^ H + i) = false := by
    rw [Bool.eq_false_iff]
    intro hc
    obtain ⟨c1, c2⟩ := inC_block.1 hc
    omega
  rw [this, Bool.and_false])
/-- with one cell of a block alone the look goes down to it -/
theorem look_down {U : Px} {h q : Nat} : ∀ {H p : Nat}, h ≤ H → q / 4 ^ (H - h) = p →
    lookC (fun x => U x && inC (4 - (h : Int), (q : Int)) x) H p = lookC U h q
  | H, p, hH, e => by
    by_cases heq : h = H
    · subst heq
      rw [Nat.sub_self, Nat.pow_zero, Nat.div_one] at e
      subst e
      exact look_congr fun k hk => by
        have : inC (4 - (h : Int), (q : Int)) (q * 4 ^ h + k) = true := inC_block.2 ⟨by omega, by omega⟩
        rw [this, Bool.and_true]
    · obtain ⟨H, rfl⟩ : ∃ H', H = H' + 1 := ⟨H - 1, by omega⟩
      have hlt : h ≤ H := by omega
      obtain ⟨k, hk4, hk⟩ := child_of hlt e
      have ih := look_down (U := U) (h := h) (q := q) (H := H) hlt hk
      obtain ⟨hq3, hq4⟩ := in_child hlt hk
      have hempty : ∀ j, j < 4 → j ≠ k → lookC (fun x => U x && inC (4 - (h : Int), (q : Int)) x) H (4 * p + j) = [] := fun j hj hjk => look_apart (by
        rcases Nat.lt_or_gt_of_ne hjk with hl | hl
        · have := Nat.mul_le_mul_right (4 ^ H) (show 4 * p + j + 1 ≤ 4 * p + k by omega)
          rw [Nat.add_mul (4 * p + j), Nat.one_mul] at this
          omega
        · have := Nat.mul_le_mul_right (4 ^ H) (show 4 * p + k + 1 ≤ 4 * p + j by omega)
          rw [Nat.add_mul (4 * p + k), Nat.one_mul] at this
          omega)
      have hnot : allP (fun x => U x && inC (4 - (h : Int), (q : Int)) x) (p * 4 ^ (H + 1)) (4 ^ (H + 1)) = false := by
        rw [Bool.eq_false_iff]
        intro ha
        have hall := allP_iff.1 ha
        have h4 : 4 ^ (H + 1) = 4 * 4 ^ H := by rw [Nat.pow_succ, Nat.mul_comm]
        have hP := four_pos H
        have hle : 4 ^ h ≤ 4 ^ H := Nat.pow_le_pow_right (by omega) hlt
        have a0 := hall 0 (four_pos _)
        have a1 := hall (4 * 4 ^ H - 1) (by omega)
        simp only [Bool.and_eq_true] at a0 a1
        have b0 := inC_block.1 a0.2
        have b1 := inC_block.1 a1.2
        omega
      rw [look_split hnot]
      have k0 := hempty 0 (by omega)
      have k1 := hempty 1 (by omega)
      have k2 := hempty 2 (by omega)
      have k3 := hempty 3 (by omega)
      rw [Nat.add_zero] at k0
      have : k = 0 ∨ k = 1 ∨ k = 2 ∨ k = 3 := by omega
      rcases this with rfl | rfl | rfl | rfl
      · rw [Nat.add_zero] at ih; rw [k1 (by omega), k2 (by omega), k3 (by omega), ih]; simp
      · rw [k0 (by omega), k2 (by omega), k3 (by omega), ih]; simp
      · rw [k0 (by omega), k1 (by omega), k3 (by omega), ih]; simp
      · rw [k0 (by omega), k1 (by omega), k2 (by omega), ih]; simp
/-- a cell's list is no longer than the block's, or one -/
theorem look_sub {U : Px} {h q : Nat} : ∀ {H p : Nat}, h ≤ H → q / 4 ^ (H - h) = p → (lookC U h q).length ≤ max 1 (lookC U H p).length
  | H, p, hH, e => by
    by_cases heq : h = H
    · subst heq
      rw [Nat.sub_self, Nat.pow_zero, Nat.div_one] at e
      subst e
      omega
    · obtain ⟨H, rfl⟩ : ∃ H', H = H' + 1 := ⟨H - 1, by omega⟩
      have hlt : h ≤ H := by omega
      obtain ⟨k, hk4, hk⟩ := child_of hlt e
      have ih := look_sub (U := U) (h := h) (q := q) (H := H) hlt hk
      refine Nat.le_trans ih ?_
      cases ha : allP U (p * 4 ^ (H + 1)) (4 ^ (H + 1))
      · rw [look_split ha]
        simp only [List.length_append]
        have : k = 0 ∨ k = 1 ∨ k = 2 ∨ k = 3 := by omega
        rcases this with rfl | rfl | rfl | rfl <;> (try rw [Nat.add_zero]) <;> omega
      · have hc : allP U ((4 * p + k) * 4 ^ H) (4 ^ H) = true := allP_iff.2 fun i hi => by
          rw [quarter, Nat.add_assoc]
          refine allP_iff.1 ha _ ?_
          have h4 : 4 ^ (H + 1) = 4 * 4 ^ H := by rw [Nat.pow_succ, Nat.mul_comm]
          have := Nat.mul_le_mul_right (4 ^ H) (show k + 1 ≤ 4 by omega)
          rw [Nat.add_mul, Nat.one_mul] at this
          omega
        rw [look_full hc]
        simp only [List.length_singleton]
        omega
/-- the cells of what a set has of one cell -/
theorem cells_cut {U : Px} {h q : Nat} (hh : h ≤ 4) (hq : (q + 1) * 4 ^ h ≤ 3072) : cellsP (fun x => U x && inC (4 - (h : Int), (q : Int)) x) = lookC U h q := by
  have hf : q / 4 ^ (4 - h) < 12 := by
    rw [Nat.div_lt_iff_lt_mul (four_pos _)]
    have h3 : (12 * 4 ^ (4 - h)) * 4 ^ h = 3072 := by rw [Nat.mul_assoc, ← Nat.pow_add, show 4 - h + h = 4 by omega]
    have := four_pos h
    exact Nat.lt_of_mul_lt_mul_right (a := 4 ^ h) (by rw [h3]; rw [Nat.add_mul] at hq; omega)
  unfold cellsP
  have key : ∀ f, lookC (fun x => U x && inC (4 - (h : Int), (q : Int)) x) 4 f = if f = q / 4 ^ (4 - h) then lookC U h q else [] := fun f => by
    split
    · next e => exact look_down hh e.symm
    · next e =>
      obtain ⟨c1, c2⟩ := in_child hh (rfl : q / 4 ^ (4 - h) = q / 4 ^ (4 - h))
      refine look_apart ?_
      rcases Nat.lt_or_gt_of_ne e with hl | hl
      · have := Nat.mul_le_mul_right (4 ^ 4) (show f + 1 ≤ q / 4 ^ (4 - h) by omega)
        rw [Nat.add_mul f, Nat.one_mul] at this
        omega
      · have := Nat.mul_le_mul_right (4 ^ 4) (show q / 4 ^ (4 - h) + 1 ≤ f by omega)
        rw [Nat.add_mul (q / 4 ^ (4 - h)), Nat.one_mul] at this
        omega
  rw [show lookC (fun x => U x && inC (4 - (h : Int), (q : Int)) x) 4 = fun f => if f = q / 4 ^ (4 - h) then lookC U h q else [] from funext key]
  generalize q / 4 ^ (4 - h) = f at *
  clear key
  generalize lookC U h q = L
  rw [show List.range 12 = [0, 1, 2, 3, 4, 5, 6, 7, 8, 9, 10, 11] by decide]
  have : f = 0 ∨ f = 1 ∨ f = 2 ∨ f = 3 ∨ f = 4 ∨ f = 5 ∨ f = 6 ∨ f = 7 ∨ f = 8 ∨ f = 9 ∨ f = 10 ∨ f = 11 := by omega
  rcases this with rfl | rfl | rfl | rfl | rfl | rfl | rfl | rfl | rfl | rfl | rfl | rfl <;> simp
theorem cut_len {U : Px} {h q : Nat} (hh : h ≤ 4) (hq : (q + 1) * 4 ^ h ≤ 3072) : (cellsP (fun x => U x && inC (4 - (h : Int), (q : Int)) x)).length ≤ max 1 (cellsP U).length := by
  rw [cells_cut hh hq]
  have hf : q / 4 ^ (4 - h) < 12 := by
    rw [Nat.div_lt_iff_lt_mul (four_pos _)]
    have h3 : (12 * 4 ^ (4 - h)) * 4 ^ h = 3072 := by rw [Nat.mul_assoc, ← Nat.pow_add, show 4 - h + h = 4 by omega]
    exact Nat.lt_of_mul_lt_mul_right (a := 4 ^ h) (by have := four_pos h; rw [h3]; rw [Nat.add_mul] at hq; omega)
  have h1 := look_sub (U := U) hh (rfl : q / 4 ^ (4 - h) = q / 4 ^ (4 - h))
  have h2 : (lookC U 4 (q / 4 ^ (4 - h))).length ≤ (cellsP U).length := by
    unfold cellsP
    generalize q / 4 ^ (4 - h) = f at *
    rw [show List.range 12 = [0, 1, 2, 3, 4, 5, 6, 7, 8, 9, 10, 11] by decide]
    simp only [List.flatMap_cons, List.flatMap_nil, List.length_append]
    have : f = 0 ∨ f = 1 ∨ f = 2 ∨ f = 3 ∨ f = 4 ∨ f = 5 ∨ f = 6 ∨ f = 7 ∨ f = 8 ∨ f = 9 ∨ f = 10 ∨ f = 11 := by omega
    rcases this with rfl | rfl | rfl | rfl | rfl | rfl | rfl | rfl | rfl | rfl | rfl | rfl <;> omega
  omega
theorem one_cells {h q : Nat} (hh : h ≤ 4) (hq : (q + 1) * 4 ^ h ≤ 3072) : cellsP (uniP [(4 - (h : Int), (q : Int))]) = [(4 - (h : Int), (q : Int))] := by
  have h1 := cells_cut (U := fun _ => true) hh hq
  rw [look_full (allP_iff.2 fun _ _ => rfl)] at h1
  rw [← h1]
  refine cells_congr fun x _ => ?_
  rw [h1]
  simp [uniP]
theorem one_valid {k q : Int} (hc : okP k q = true) : vldC [(k, q)] = true := by
  obtain ⟨h, n, hh, rfl, rfl, hn⟩ := okP_form hc
  refine vldC_iff.2 ⟨by simp, ?_, one_cells hh hn⟩
  have : ∀ k', k' < [((4 - (h : Int) : Int), (n : Int))].length → (fun k => !(okP (pa [((4 - (h : Int) : Int), (n : Int))] k) (pb [((4 - (h : Int) : Int), (n : Int))] k))) k' = false := fun k' hk' => by
    have : k' = 0 := by simpa using hk'
    subst this
    simp [pa, pb, hc]
  exact anyF_no.2 this
end Go.Proofs.Ytolgpigdioanoaa
