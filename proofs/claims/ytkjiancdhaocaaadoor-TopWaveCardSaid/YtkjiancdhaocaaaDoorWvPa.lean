/- Plans, read and compared: plain. -/
import Derived.Test.YtkjiancdhaocaaaDoorWvQa
import Derived.Test.YtkjiancdhaocaaaDoorWvU
namespace Go.Proofs.YtkjiancdhaocaaaDoor
open Go.RowKit
set_option linter.unusedSimpArgs false
set_option linter.unusedVariables false

/-- the text of numbers in words of some widths (by their numbers), from width j on -/
def plL : Nat → List (Nat × Int) → Tx
  | _, [] => []
  | j, (k, d) :: r => toT upK dnK j k ++ (wordB (wid k) d ++ plL k r)
def okK (p : List (Nat × Int)) : Prop := ∀ x ∈ p, x.1 < 5 ∧ canD (wid x.1) x.2 = true
/-- how many changes lie between two widths -/
def chN (j k : Nat) : Nat := (k - j) + (j - k)
def chL : Nat → List (Nat × Int) → Nat
  | _, [] => 0
  | j, (k, _) :: r => chN j k + chL k r
def dsL (p : List (Nat × Int)) : List Int := p.map (·.2)
def wsL (p : List (Nat × Int)) : List Int := p.map fun x => (wid x.1 : Int)
theorem chg_take (k : Nat) (b : Bool) (X : Tx) : (chg k b ++ X).take (wid k) = wordB (wid k) (-(hf (wid k))) := by
  unfold chg
  rw [List.append_assoc, List.take_append_of_le_length (by rw [wordB_len]; exact Nat.le_refl _), List.take_of_length_le (by rw [wordB_len]; exact Nat.le_refl _)]
theorem chg_drop (k : Nat) (b : Bool) (X : Tx) : (chg k b ++ X).drop (wid k) = (if b then 49 else 48) :: X := by
  unfold chg
  rw [List.append_assoc, List.drop_append_of_le_length (by rw [wordB_len]; exact Nat.le_refl _), List.drop_eq_nil_of_le (by rw [wordB_len]; exact Nat.le_refl _)]
  rfl
theorem chg_drop1 (k : Nat) (b : Bool) (X : Tx) : (chg k b ++ X).drop (wid k + 1) = X := by
  rw [← List.drop_drop, chg_drop]; rfl
theorem chg_length (k : Nat) (b : Bool) : (chg k b).length = wid k + 1 := by unfold chg; rw [List.length_append, wordB_len]; rfl
theorem can_min (k : Nat) : canD (wid k) (numB (wordB (wid k) (-(hf (wid k))))) = false := by
  have h := hf_le (wid_ok k)
  rw [num_word (wid_ok k) (Int.le_refl _) (by omega)]
  unfold canD btw
  rw [decide_eq_false (by omega)]
  rfl
theorem rd_chg_up {lo : Bool} {k : Nat} (hk : k + 1 < 5) (X : Tx) (ds ws : List Int) (ch : Nat) : addR ds ws ch (rdF lo (chg k true ++ X) k) = addR ds ws (ch + 1) (rdF true X (k + 1)) := by
  rw [rd_up (by rw [List.length_append, chg_length]; omega) (by rw [chg_take]; exact can_min k) (by rw [chg_drop]; rfl), if_pos hk, chg_drop1]
theorem rd_chg_dn {lo : Bool} {k : Nat} (hk : 0 < k) (X : Tx) (ds ws : List Int) (ch : Nat) : addR ds ws ch (rdF lo (chg k false ++ X) k) = addR ds ws (ch + 1) (rdF true X (k - 1)) := by
  rw [rd_down (by rw [List.length_append, chg_length]; omega) (by rw [chg_take]; exact can_min k) (by rw [chg_drop]; simp), if_pos hk, chg_drop1]
theorem rd_to_up : ∀ (n : Nat) (j k : Nat), k - j = n → j < k → k < 5 → ∀ (lo : Bool) (X : Tx) (ds ws : List Int) (ch : Nat), addR ds ws ch (rdF lo (toT upK dnK j k ++ X) j) = addR ds ws (ch + (k - j)) (rdF true X k)
  | 0, j, k, hn, hlt, _, _, _, _, _, _ => by omega
  | n + 1, j, k, hn, hlt, hk, lo, X, ds, ws, ch => by
    rw [toT_up upK dnK hlt, List.append_assoc]
    show addR ds ws ch (rdF lo (chg j true ++ _) j) = _
    rw [rd_chg_up (by omega)]
    by_cases e : j + 1 = k
    · subst e
      rw [toT_self, List.nil_append]
      congr 1
      omega
    · rw [rd_to_up n (j + 1) k (by omega) (by omega) hk]
      congr 1
      omega
theorem rd_to_dn : ∀ (n : Nat) (j k : Nat), j - k = n → k < j → j < 5 → ∀ (lo : Bool) (X : Tx) (ds ws : List Int) (ch : Nat), addR ds ws ch (rdF lo (toT upK dnK j k ++ X) j) = addR ds ws (ch + (j - k)) (rdF true X k)
  | 0, j, k, hn, hlt, _, _, _, _, _, _ => by omega
  | n + 1, j, k, hn, hlt, hj, lo, X, ds, ws, ch => by
    obtain ⟨q, rfl⟩ : ∃ q, j = q + 1 := ⟨j - 1, by omega⟩
    rw [toT_dn upK dnK (show k ≤ q by omega), List.append_assoc]
    show addR ds ws ch (rdF lo (chg (q + 1) false ++ _) (q + 1)) = _
    rw [rd_chg_dn (by omega), Nat.add_sub_cancel]
    by_cases e : q = k
    · subst e
      rw [toT_self, List.nil_append]
      congr 1
      omega
    · rw [rd_to_dn n q k (by omega) (by omega) (by omega)]
      congr 1
      omega
theorem rd_to {lo : Bool} {j k : Nat} (hj : j < 5) (hk : k < 5) (X : Tx) (ds ws : List Int) (ch : Nat) : ∃ lo', addR ds ws ch (rdF lo (toT upK dnK j k ++ X) j) = addR ds ws (ch + chN j k) (rdF lo' X k) := by
  unfold chN
  rcases Nat.lt_trichotomy j k with h | rfl | h
  · exact ⟨true, by rw [rd_to_up _ j k rfl h hk, show j - k = 0 by omega]; rfl⟩
  · exact ⟨lo, by rw [toT_self]; simp⟩
  · exact ⟨true, by rw [rd_to_dn _ j k rfl h hj, show k - j = 0 by omega, Nat.zero_add]⟩
theorem rd_wordB {lo : Bool} {k : Nat} {d : Int} (hc : canD (wid k) d = true) (X : Tx) (ds ws : List Int) (ch : Nat) : addR ds ws ch (rdF lo (wordB (wid k) d ++ X) k) = addR (ds ++ [d]) (ws ++ [(wid k : Int)]) ch (rdF false X k) := by
  have hw := (okW_le (wid_ok k)).1
  have ht : (wordB (wid k) d ++ X).take (wid k) = wordB (wid k) d := by
    rw [List.take_append_of_le_length (by rw [wordB_len]; exact Nat.le_refl _), List.take_of_length_le (by rw [wordB_len]; exact Nat.le_refl _)]
  have hd : (wordB (wid k) d ++ X).drop (wid k) = X := by
    rw [List.drop_append_of_le_length (by rw [wordB_len]; exact Nat.le_refl _), List.drop_eq_nil_of_le (by rw [wordB_len]; exact Nat.le_refl _)]
    rfl
  have hb := btw_iff.1 hc
  have hn := num_word (n := d) (wid_ok k) (by omega) (by omega)
  rw [rd_word (by rw [List.length_append, wordB_len]; omega) (by rw [List.length_append, wordB_len]; omega) (by rw [ht, hn]; exact hc), ht, hd, hn]
/-- a plan is read as it was asked -/
theorem rd_plL : ∀ (p : List (Nat × Int)) (j : Nat), j < 5 → okK p → ∀ (lo : Bool) (ds ws : List Int) (ch : Nat), (lo = false ∨ p ≠ []) → addR ds ws ch (rdF lo (plL j p) j) = some (ds ++ dsL p, ws ++ wsL p, ch + chL j p, false)
  | [], j, hj, _, lo, ds, ws, ch, hlo => by
    rw [plL, rd_nil]
    rcases hlo with rfl | h
    · simp [dsL, wsL, chL]
    · exact absurd rfl h
  | (k, d) :: r, j, hj, hok, lo, ds, ws, ch, _ => by
    obtain ⟨hk, hc⟩ := hok (k, d) List.mem_cons_self
    obtain ⟨lo', h1⟩ := rd_to (lo := lo) hj hk (wordB (wid k) d ++ plL k r) ds ws ch
    rw [plL, h1, rd_wordB hc, rd_plL r k hk (fun x hx => hok x (List.mem_cons_of_mem _ hx)) false _ _ _ (.inl rfl)]
    simp [dsL, wsL, chL, Nat.add_assoc]
theorem rdF_plL {p : List (Nat × Int)} {j : Nat} (hj : j < 5) (hok : okK p) : rdF false (plL j p) j = some (dsL p, wsL p, chL j p, false) := by
  have := rd_plL p j hj hok false [] [] 0 (.inl rfl)
  rw [addR_nil] at this
  simpa using this
end Go.Proofs.YtkjiancdhaocaaaDoor
