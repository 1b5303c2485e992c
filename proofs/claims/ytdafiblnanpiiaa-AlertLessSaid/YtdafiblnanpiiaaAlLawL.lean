/- Plain laws: one task fewer, less work (for AlertLess). -/
import Derived.Test.YtdafiblnanpiiaaAlLawM
import Derived.Test.YtdafiblnanpiiaaAlLaw2
namespace Go.Proofs.Ytdafiblnanpiiaa
set_option linter.unusedVariables false

def dropT (L : List (Int × Int × Int)) (i : Nat) : List (Int × Int × Int) := L.take i ++ L.drop (i + 1)
theorem dropT_eq (L : List (Int × Int × Int)) (i : Nat) : dropT L i = L.eraseIdx i := (List.eraseIdx_eq_take_drop_succ L i).symm
theorem dropT_len {L : List (Int × Int × Int)} {i : Nat} (hi : i < L.length) : (dropT L i).length + 1 = L.length := by
  unfold dropT; rw [List.length_append, List.length_take, List.length_drop]; omega
theorem dropT_sub (L : List (Int × Int × Int)) (i : Nat) : (dropT L i).Sublist L := by rw [dropT_eq]; exact List.eraseIdx_sublist L i
theorem tx_q (L : List (Int × Int × Int)) (i : Nat) : tx L i = L[i]?.getD (0, 0, 0) := by simp [tx, ta, tb, tc]
theorem dropT_at {L : List (Int × Int × Int)} {i : Nat} (hi : i < L.length) (j : Nat) (hj : j < (dropT L i).length) : tx (dropT L i) j = tx L (skip i j) := by
  have ht : (L.take i).length = i := by rw [List.length_take]; omega
  rw [tx_q, tx_q]
  unfold skip dropT
  by_cases h : j < i
  · rw [if_pos h, List.getElem?_append_left (by omega), List.getElem?_take_of_lt h]
  · rw [if_neg h, List.getElem?_append_right (by omega), List.getElem?_drop, ht, show i + 1 + (j - i) = j + 1 by omega]
theorem sev_drop {L : List (Int × Int × Int)} {k : Int} {i : Nat} (hi : i < L.length) (h : SevP L k) : SevP (dropT L i) k := by
  refine SevP.fewer h i hi (dropT_len hi) fun j hj => ?_
  have e := dropT_at hi j hj
  unfold tx at e
  simp only [Prod.mk.injEq] at e
  exact e
theorem slk_drop {L : List (Int × Int × Int)} (hok : okT L) (i : Nat) : slk L ≤ slk (dropT L i) := slk_sub (dropT_sub L i) (okT_iff.1 hok).2
theorem okT_drop {L : List (Int × Int × Int)} (hok : okT L) (i : Nat) (hne : 1 ≤ (dropT L i).length) : okT (dropT L i) := okT_sub (dropT_sub L i) hok hne
/-- with less work -/
def workT (L : List (Int × Int × Int)) (i : Nat) (v : Int) : List (Int × Int × Int) := L.set i (ta L i, tb L i, v)
theorem workT_at {L : List (Int × Int × Int)} {i : Nat} (hi : i < L.length) (v : Int) (j : Nat) (hj : j < L.length) : ta (workT L i v) j = ta L j ∧ tb (workT L i v) j = tb L j ∧ tc (workT L i v) j = if j = i then v else tc L j := by
  have e : tx (workT L i v) j = if j = i then (ta L i, tb L i, v) else tx L j := by
    rw [tx_get (by simpa [workT] using hj), tx_get hj]
    unfold workT
    rw [List.getElem_set]
    by_cases h : i = j
    · rw [if_pos h, if_pos h.symm]
    · rw [if_neg h, if_neg (fun h' => h h'.symm)]
  unfold tx at e
  by_cases h : j = i
  · subst h
    rw [if_pos rfl] at e
    simp only [Prod.mk.injEq] at e
    rw [if_pos rfl]; exact e
  · rw [if_neg h] at e
    simp only [Prod.mk.injEq] at e
    rw [if_neg h]; exact e
theorem workT_len (L : List (Int × Int × Int)) (i : Nat) (v : Int) : (workT L i v).length = L.length := by simp [workT]
theorem okT_work {L : List (Int × Int × Int)} (hok : okT L) {i : Nat} (hi : i < L.length) {v : Int} (h1 : 1 ≤ v) (h2 : v ≤ tc L i) : okT (workT L i v) := by
  refine ⟨by rw [workT_len]; exact hok.1, fun k hk => ?_⟩
  rw [workT_len] at hk
  obtain ⟨e1, e2, e3⟩ := workT_at hi v k hk
  rw [e1, e2, e3]
  have := hok.2 k hk
  by_cases h : k = i
  · subst h; rw [if_pos rfl]; omega
  · rw [if_neg h]; exact this
theorem sev_work {L : List (Int × Int × Int)} {k : Int} (hok : okT L) {i : Nat} (hi : i < L.length) {v : Int} (h1 : 1 ≤ v) (h2 : v ≤ tc L i) (h : SevP L k) : SevP (workT L i v) k := by
  refine SevP.less h (workT_len _ _ _) fun j hj => ?_
  obtain ⟨e1, e2, e3⟩ := workT_at hi v j hj
  rw [e1, e2, e3]
  have := hok.2 j hj
  by_cases hji : j = i
  · subst hji; rw [if_pos rfl]; omega
  · rw [if_neg hji]; omega
theorem slk_work {L : List (Int × Int × Int)} (hok : okT L) {i : Nat} (hi : i < L.length) {v : Int} (h1 : 1 ≤ v) (h2 : v ≤ tc L i) : slk L ≤ slk (workT L i v) := by
  refine slk_mono fun a b => ?_
  rw [← dem_eq, ← dem_eq]
  unfold dem
  rw [demT_sm, demT_sm, workT_len]
  refine sm_le fun j hj => ?_
  obtain ⟨e1, e2, e3⟩ := workT_at hi v j hj
  unfold inS
  rw [e1, e2, e3]
  by_cases hji : j = i
  · subst hji; rw [if_pos rfl]; split <;> omega
  · rw [if_neg hji]; exact Int.le_refl _
end Go.Proofs.Ytdafiblnanpiiaa
