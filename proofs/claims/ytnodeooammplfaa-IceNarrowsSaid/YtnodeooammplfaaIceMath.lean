/- Plain law, no program in sight: ice as a list of layers, its metres, and the column of losses from the top. -/
import Derived.Test.YtnodeooammplfaaLib
namespace Go.Proofs.Ytnodeooammplfaa
set_option linter.unusedVariables false

def vL (t d : Int) : Bool := btw 1 t 30 && btw 0 d 100
/-- which ice is valid -/
def vld (L : List (Int × Int)) : Bool := btw 1 L.length 20 && !(anyF (fun k => !(btw 1 (pa L k) 30) || !(btw 0 (pb L k) 100)) L.length)
/-- the Dim of each metre -/
def mets (L : List (Int × Int)) : List Int := L.flatMap fun x => List.replicate x.1.toNat x.2
/-- the loss from the top, for each depth -/
def cum (l : List Int) : List Int := (List.range (l.length + 1)).map fun k => (l.take k).sum
def gate (v r : Bool) : Int := if v then (if r then 0 else 2) else 40
def lossI (l : List Int) (i j : Nat) : Int := max (ix l i - ix l j) (ix l j - ix l i)

theorem vld_spec {L : List (Int × Int)} (h : vld L = true) : 1 ≤ L.length ∧ L.length ≤ 20 ∧ ∀ k, k < L.length → 1 ≤ pa L k ∧ pa L k ≤ 30 ∧ 0 ≤ pb L k ∧ pb L k ≤ 100 := by
  unfold vld at h
  simp only [Bool.and_eq_true, Bool.not_eq_true', btw_iff] at h
  obtain ⟨⟨h1, h2⟩, h3⟩ := h
  refine ⟨by omega, by omega, fun k hk => ?_⟩
  have := anyF_no.1 h3 k hk
  simp only [Bool.or_eq_false_iff, Bool.not_eq_false', btw_iff] at this
  omega

theorem pa_cons (x : Int × Int) (L : List (Int × Int)) (k : Nat) : pa (x :: L) (k + 1) = pa L k := by simp [pa]
theorem pb_cons (x : Int × Int) (L : List (Int × Int)) (k : Nat) : pb (x :: L) (k + 1) = pb L k := by simp [pb]
theorem get_pab (L : List (Int × Int)) (k : Nat) (hk : k < L.length) : L[k] = (pa L k, pb L k) := by simp [pa, pb, hk]

/-- good layers: nothing wraps -/
def okL (L : List (Int × Int)) : Prop := L.length ≤ 20 ∧ ∀ k, k < L.length → 0 ≤ pa L k ∧ pa L k ≤ 30 ∧ 0 ≤ pb L k ∧ pb L k ≤ 100
theorem okL_of_vld {L : List (Int × Int)} (h : vld L = true) : okL L := by
  obtain ⟨_, h2, h3⟩ := vld_spec h
  exact ⟨h2, fun k hk => by have := h3 k hk; omega⟩
theorem okL_mem {L : List (Int × Int)} (h : okL L) : ∀ x ∈ L, 0 ≤ x.1 ∧ x.1 ≤ 30 ∧ 0 ≤ x.2 ∧ x.2 ≤ 100 := by
  intro x hx
  obtain ⟨k, hk, rfl⟩ := List.getElem_of_mem hx
  have := h.2 k hk
  rw [get_pab L k hk]
  exact this

theorem mets_nil : mets [] = [] := rfl
theorem mets_append (A B : List (Int × Int)) : mets (A ++ B) = mets A ++ mets B := by simp [mets]
theorem mets_take_succ (L : List (Int × Int)) (i : Nat) (hi : i < L.length) : mets (L.take (i + 1)) = mets (L.take i) ++ List.replicate (pa L i).toNat (pb L i) := by
  rw [List.take_succ_eq_append_getElem hi, mets_append, get_pab L i hi]
  simp [mets]
theorem mets_length_le (L : List (Int × Int)) (h : ∀ x ∈ L, x.1 ≤ 30) : (mets L).length ≤ 30 * L.length := by
  induction L with
  | nil => simp [mets]
  | cons x L ih =>
    have h1 := h x (by simp)
    have h2 := ih fun y hy => h y (by simp [hy])
    rw [show mets (x :: L) = List.replicate x.1.toNat x.2 ++ mets L from rfl, List.length_append, List.length_replicate, List.length_cons]
    omega
theorem mets_mem {L : List (Int × Int)} (h : okL L) : ∀ d ∈ mets L, 0 ≤ d ∧ d ≤ 100 := by
  intro d hd
  simp only [mets, List.mem_flatMap] at hd
  obtain ⟨x, hx, hd⟩ := hd
  have := List.eq_of_mem_replicate hd
  have := okL_mem h x hx
  omega
theorem okL_take {L : List (Int × Int)} (h : okL L) (i : Nat) : okL (L.take i) := by
  refine ⟨by have := h.1; simp; omega, fun k hk => ?_⟩
  simp at hk
  have := h.2 k (by omega)
  have e : (L.take i)[k]? = L[k]? := by rw [List.getElem?_take]; simp [show k < i by omega]
  simpa [pa, pb, e] using this
theorem mets_len600 {L : List (Int × Int)} (h : okL L) : (mets L).length ≤ 600 := by
  have := mets_length_le L (fun x hx => (okL_mem h x hx).2.1)
  have := h.1
  omega

theorem sum_bounds (l : List Int) (h : ∀ d ∈ l, 0 ≤ d ∧ d ≤ 100) : 0 ≤ l.sum ∧ l.sum ≤ 100 * l.length := by
  induction l with
  | nil => simp
  | cons x l ih =>
    have h1 := h x (by simp)
    have h2 := ih fun y hy => h y (by simp [hy])
    simp only [List.sum_cons, List.length_cons]
    omega
theorem cum_length (l : List Int) : (cum l).length = l.length + 1 := by simp [cum]
theorem ix_cum (l : List Int) (k : Nat) (hk : k ≤ l.length) : ix (cum l) k = (l.take k).sum := by
  have : k < l.length + 1 := by omega
  simp [ix, cum, this]
theorem cum_nil : cum [] = [0] := by simp [cum]
theorem cum_snoc (l : List Int) (x : Int) : cum (l ++ [x]) = cum l ++ [l.sum + x] := by
  unfold cum
  rw [List.length_append, List.length_cons, List.length_nil, List.range_succ, List.map_append]
  congr 1
  · apply List.map_congr_left
    intro k hk
    simp only [List.mem_range] at hk
    rw [List.take_append_of_le_length (by omega)]
  · simp [List.take_of_length_le]
theorem ix_cum_last (l : List Int) : ix (cum l) l.length = l.sum := by rw [ix_cum l _ (Nat.le_refl _), List.take_length]
theorem cum_succ (l : List Int) (k : Nat) (hk : k < l.length) : ix (cum l) (k + 1) = ix (cum l) k + ix l k := by
  rw [ix_cum l _ (by omega), ix_cum l _ (by omega), List.take_succ_eq_append_getElem hk, List.sum_append]
  simp [ix, hk]
theorem ix_mem {l : List Int} {k : Nat} (hk : k < l.length) : ix l k ∈ l := by
  simp [ix, hk]
theorem cum_mono (l : List Int) (h : ∀ d ∈ l, 0 ≤ d) (i j : Nat) (hij : i ≤ j) (hj : j ≤ l.length) : ix (cum l) i ≤ ix (cum l) j := by
  induction j with
  | zero => have : i = 0 := by omega
            subst this; omega
  | succ j ih =>
    by_cases e : i = j + 1
    · subst e; omega
    · have h1 := ih (by omega) (by omega)
      have h2 := cum_succ l j (by omega)
      have h3 := h _ (ix_mem (l := l) (k := j) (by omega))
      omega
/-- the column of good ice: nothing wraps -/
theorem cum_bounds {l : List Int} (h : ∀ d ∈ l, 0 ≤ d ∧ d ≤ 100) (hl : l.length ≤ 600) (k : Nat) : 0 ≤ ix (cum l) k ∧ ix (cum l) k ≤ 60000 := by
  by_cases hk : k ≤ l.length
  · rw [ix_cum l k hk]
    have h1 := sum_bounds (l.take k) (fun d hd => h d (List.mem_of_mem_take hd))
    have : (l.take k).length ≤ l.length := List.length_take_le' _ _
    omega
  · have : ix (cum l) k = 0 := by
      have hn : (cum l)[k]? = none := by rw [List.getElem?_eq_none_iff, cum_length]; omega
      simp [ix, hn]
    omega
theorem ice_bounds {L : List (Int × Int)} (h : okL L) (k : Nat) : 0 ≤ ix (cum (mets L)) k ∧ ix (cum (mets L)) k ≤ 60000 := cum_bounds (mets_mem h) (mets_len600 h) k
theorem ix_bounds {L : List (Int × Int)} (h : okL L) (k : Nat) : 0 ≤ ix (mets L) k ∧ ix (mets L) k ≤ 100 := by
  by_cases hk : k < (mets L).length
  · exact mets_mem h _ (ix_mem hk)
  · have hn : (mets L)[k]? = none := by rw [List.getElem?_eq_none_iff]; omega
    simp [ix, hn]
end Go.Proofs.Ytnodeooammplfaa
