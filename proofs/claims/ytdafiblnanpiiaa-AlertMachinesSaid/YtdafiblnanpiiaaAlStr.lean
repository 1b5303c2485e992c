/- Plain lemmas: all stretches in their order; the first one that has something. -/
import Derived.Test.YtdafiblnanpiiaaLibT
namespace Go.Proofs.Ytdafiblnanpiiaa
set_option linter.unusedVariables false

/-- the stretches from a that end before b -/
def strRow (a b : Nat) : List (Int × Int) := (List.range' (a + 1) (b - (a + 1))).map fun (y : Nat) => ((a : Int), (y : Int))
def strUp : Nat → List (Int × Int)
  | 0 => []
  | a + 1 => strUp a ++ strRow a 101
def strAll : List (Int × Int) := strUp 100
theorem strRow_zero (a : Nat) : strRow a (a + 1) = [] := by simp [strRow]
theorem strRow_succ {a b : Nat} (h : a + 1 ≤ b) : strRow a (b + 1) = strRow a b ++ [((a : Int), (b : Int))] := by
  unfold strRow
  rw [show b + 1 - (a + 1) = (b - (a + 1)) + 1 by omega, List.range'_concat, List.map_append]
  simp; omega
theorem strRow_length (a b : Nat) : (strRow a b).length = b - (a + 1) := by simp [strRow]
theorem strUp_length (a : Nat) (h : a ≤ 100) : (strUp a).length ≤ a * 100 := by
  induction a with
  | zero => simp [strUp]
  | succ a ih => simp only [strUp, List.length_append, strRow_length]; have := ih (by omega); omega
theorem strPart_length {a b : Nat} (h : a < 100) (hb : b ≤ 101) : (strUp a ++ strRow a b).length < 10001 := by
  rw [List.length_append, strRow_length]; have := strUp_length a (by omega); omega
theorem strUp_pre {a c : Nat} (h : a ≤ c) : strUp a <+: strUp c := by
  induction c with
  | zero => obtain rfl : a = 0 := by omega
            exact List.prefix_refl _
  | succ c ih =>
    by_cases e : a = c + 1
    · subst e; exact List.prefix_refl _
    · exact (ih (by omega)).trans (List.prefix_append _ _)
theorem strRow_pre {a b c : Nat} (h : b ≤ c) : strRow a b <+: strRow a c := by
  unfold strRow
  refine List.IsPrefix.map _ ?_
  refine ⟨List.range' (a + 1 + (b - (a + 1))) (c - (a + 1) - (b - (a + 1))), ?_⟩
  rw [List.range'_append_1]; congr 1; omega
theorem strPart_pre {a b : Nat} (h : a < 100) (hb : b ≤ 101) : strUp a ++ strRow a b <+: strAll := by
  refine List.IsPrefix.trans ?_ (strUp_pre (show a + 1 ≤ 100 by omega))
  simp only [strUp]
  exact List.prefix_append_right_inj _ |>.2 (strRow_pre hb)
theorem mem_strRow {a b : Nat} {x y : Int} : (x, y) ∈ strRow a b ↔ x = a ∧ (a : Int) < y ∧ y < b := by
  simp only [strRow, List.mem_map, List.mem_range', Prod.mk.injEq]
  constructor
  · rintro ⟨z, ⟨i, h1, rfl⟩, rfl, rfl⟩; omega
  · rintro ⟨rfl, h1, h2⟩
    exact ⟨y.toNat, ⟨y.toNat - (a + 1), by omega, by omega⟩, rfl, by omega⟩
theorem mem_strUp {c : Nat} {x y : Int} : (x, y) ∈ strUp c ↔ 0 ≤ x ∧ x < c ∧ x < y ∧ y ≤ 100 := by
  induction c with
  | zero => simp [strUp]; omega
  | succ c ih => simp only [strUp, List.mem_append, ih, mem_strRow]; omega
theorem mem_strAll {x y : Int} : (x, y) ∈ strAll ↔ 0 ≤ x ∧ x < y ∧ y ≤ 100 := by
  unfold strAll; rw [mem_strUp]; omega
theorem strAll_eq : strUp 100 = strAll := rfl
attribute [irreducible] strAll
theorem find_hit {α : Type} {p : α → Bool} {l pre : List α} {x : α} (h : pre ++ [x] <+: l) (h0 : ∀ y ∈ pre, p y = false) (hx : p x = true) : l.find? p = some x := by
  obtain ⟨t, rfl⟩ := h
  rw [List.append_assoc, List.find?_append, List.find?_eq_none.2 (fun y hy => by simp [h0 y hy])]
  simp [hx]
theorem find_miss {α : Type} {p : α → Bool} {l : List α} (h0 : ∀ y ∈ l, p y = false) : l.find? p = none :=
  List.find?_eq_none.2 (fun y hy => by simp [h0 y hy])
end Go.Proofs.Ytdafiblnanpiiaa
