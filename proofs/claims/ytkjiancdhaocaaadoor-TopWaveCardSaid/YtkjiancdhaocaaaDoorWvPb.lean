/- The shortest text is a plan and the least one; each text is no shorter than the plan of its widths: plain. -/
import Derived.Test.YtkjiancdhaocaaaDoorWvPa
import Derived.Test.YtkjiancdhaocaaaDoorWvH
import Derived.Test.YtkjiancdhaocaaaDoorWvX
import Derived.Test.YtkjiancdhaocaaaDoorWvZ
import Derived.Test.YtkjiancdhaocaaaDoorWvQc
namespace Go.Proofs.YtkjiancdhaocaaaDoor
open Go.RowKit
set_option linter.unusedSimpArgs false
set_option linter.unusedVariables false

/-! ### plans by index and by list -/
def prS (kf : Nat → Nat) (ds : List Int) (i m : Nat) : List (Nat × Int) := (List.range' i m).map fun i => (kf i, ix ds i)
theorem plT_plL (ds : List Int) (kf : Nat → Nat) : ∀ m i, plT ds kf i ++ plL (nwP kf i) (prS kf ds i m) = plT ds kf (i + m)
  | 0, i => by simp [prS, plL]
  | m + 1, i => by
    have e : prS kf ds i (m + 1) = (kf i, ix ds i) :: prS kf ds (i + 1) m := by simp [prS, List.range'_succ]
    rw [e, plL, show i + (m + 1) = (i + 1) + m by omega, ← plT_plL ds kf m (i + 1), plT]
    simp [nwP, List.append_assoc]
theorem plT_all (ds : List Int) (kf : Nat → Nat) (n : Nat) : plT ds kf n = plL 2 (prS kf ds 0 n) := by
  have := plT_plL ds kf n 0
  rw [Nat.zero_add] at this
  rw [← this]
  rfl
theorem dsL_prS (kf : Nat → Nat) (ds : List Int) : dsL (prS kf ds 0 ds.length) = ds := by
  refine List.ext_getElem (by simp [dsL, prS]) fun i h1 h2 => ?_
  simp [dsL, prS, ix, h2]
theorem wsL_prS {kf : Nat → Nat} {ds ws : List Int} (hl : ws.length = ds.length) (h : ∀ i, i < ds.length → ix ws i = (wid (kf i) : Int)) : wsL (prS kf ds 0 ds.length) = ws := by
  refine List.ext_getElem (by simp [wsL, prS, hl]) fun i h1 h2 => ?_
  have := h i (by omega)
  simp only [wsL, prS, List.map_map, List.getElem_map, List.getElem_range', Function.comp]
  rw [show 0 + 1 * i = i by omega, ← this]
  simp [ix, h2]
theorem okK_prS {kf : Nat → Nat} {ds : List Int} {n : Nat} (h : ∀ i, i < n → kf i < 5 ∧ canD (wid (kf i)) (ix ds i) = true) : okK (prS kf ds 0 n) := by
  intro x hx
  simp only [prS, List.mem_map, List.mem_range'_1] at hx
  obtain ⟨i, hi, rfl⟩ := hx
  exact h i (by omega)
/-! ### bits -/
theorem bitsB_app {a b : Tx} (ha : bitsB a = true) (hb : bitsB b = true) : bitsB (a ++ b) = true := by unfold bitsB at *; rw [List.all_append, ha, hb]; rfl
theorem bits_chg (k : Nat) (b : Bool) : bitsB (chg k b) = true := by unfold chg; exact bitsB_app (wordB_bits _ _) (by cases b <;> rfl)
theorem bits_toT : ∀ i k : Fin 5, bitsB (toT upK dnK i k) = true := by decide +kernel
theorem bits_plL : ∀ (p : List (Nat × Int)) (j : Nat), j < 5 → okK p → bitsB (plL j p) = true
  | [], _, _, _ => rfl
  | (k, d) :: r, j, hj, hok => by
    have hk := (hok (k, d) List.mem_cons_self).1
    exact bitsB_app (bits_toT ⟨j, hj⟩ ⟨k, hk⟩) (bitsB_app (wordB_bits _ _) (bits_plL r k hk fun x hx => hok x (List.mem_cons_of_mem _ hx)))
/-! ### the shortest text -/
theorem minD_mem (up dn : Nat → Tx) (f : Nat → Ot) (i : Nat) : ∀ n, minD up dn f i n = none ∨ ∃ k, k < n ∧ minD up dn f i n = cand up dn f i k
  | 0 => .inl rfl
  | n + 1 => by
    rw [minD]
    rcases better_or (minD up dn f i n) (cand up dn f i n) with e | e <;> rw [e]
    · rcases minD_mem up dn f i n with h | ⟨k, hk, h⟩
      · exact .inl h
      · exact .inr ⟨k, by omega, h⟩
    · exact .inr ⟨n, by omega, rfl⟩
theorem encF_plan : ∀ (ds : List Int), (∀ d ∈ ds, -1023 ≤ d ∧ d ≤ 1023) → ∀ j, j < 5 → ∃ p, okK p ∧ dsL p = ds ∧ encF ds j = some (plL j p)
  | [], _, j, _ => ⟨[], (fun x hx => by cases hx), rfl, rfl⟩
  | d :: r, h, j, hj => by
    obtain ⟨x, hx⟩ := encF_some (d :: r) h j hj
    have h3 : encF (d :: r) j = minD upK dnK (f0 (encF r) d) j 5 := rl_min upK dnK _ hj
    rcases minD_mem upK dnK (f0 (encF r) d) j 5 with e | ⟨k, hk, e⟩
    · rw [h3, e] at hx; cases hx
    · by_cases hc : canD (wid k) d = true
      · obtain ⟨p, hp1, hp2, hp3⟩ := encF_plan r (fun e he => h e (List.mem_cons_of_mem _ he)) k hk
        refine ⟨(k, d) :: p, ?_, by simp [dsL] at hp2 ⊢; exact hp2, ?_⟩
        · intro y hy
          rcases List.mem_cons.1 hy with rfl | hy
          · exact ⟨hk, hc⟩
          · exact hp1 y hy
        · rw [h3, e]
          unfold cand f0
          rw [if_pos hc, hp3]
          rfl
      · rw [h3, e] at hx
        unfold cand f0 at hx
        rw [if_neg hc] at hx
        cases hx
theorem encF_best : ∀ (p : List (Nat × Int)), okK p → ∀ j, j < 5 → leO (encF (dsL p) j) (some (plL j p))
  | [], _, j, _ => leO_refl _
  | (k, d) :: r, hok, j, hj => by
    obtain ⟨hk, hc⟩ := hok (k, d) List.mem_cons_self
    have ih := encF_best r (fun x hx => hok x (List.mem_cons_of_mem _ hx)) k hk
    have h3 : encF (d :: dsL r) j = minD upK dnK (f0 (encF (dsL r)) d) j 5 := rl_min upK dnK _ hj
    have h1 : leO (minD upK dnK (f0 (encF (dsL r)) d) j 5) (cand upK dnK (f0 (encF (dsL r)) d) j k) := minD_le upK dnK _ j hk
    have h2 : cand upK dnK (f0 (encF (dsL r)) d) j k = pre (toT upK dnK j k) (pre (wordB (wid k) d) (encF (dsL r) k)) := by
      unfold cand f0
      rw [if_pos hc]
    rw [h2] at h1
    show leO (encF (d :: dsL r) j) _
    rw [h3]
    exact leO_trans h1 (pre_le _ (pre_le _ ih))
/-! ### texts and plans -/
def le2 (a t : Tx) : Prop := a.length < t.length ∨ a = t
theorem le2_leT {a t : Tx} (h : le2 a t) : leT a t = true := by
  rw [leT_iff]
  rcases h with h | rfl
  · exact .inl h
  · exact .inr ⟨rfl, .inr rfl⟩
theorem le2_refl (a : Tx) : le2 a a := .inr rfl
theorem le2_trans {a b c : Tx} (h1 : le2 a b) (h2 : le2 b c) : le2 a c := by
  rcases h1 with h1 | rfl
  · rcases h2 with h2 | rfl
    · exact .inl (by omega)
    · exact .inl h1
  · exact h2
theorem le2_pre (p : Tx) {a b : Tx} (h : le2 a b) : le2 (p ++ a) (p ++ b) := by
  rcases h with h | rfl
  · exact .inl (by simp; omega)
  · exact .inr rfl
theorem le2_long (p a : Tx) : le2 a (p ++ a) := by
  cases p with
  | nil => exact .inr rfl
  | cons x p => exact .inl (by simp; omega)
theorem plL_up {k : Nat} {p : List (Nat × Int)} : le2 (plL k p) (chg k true ++ plL (k + 1) p) ∧ chL k p ≤ chL (k + 1) p + 1 := by
  cases p with
  | nil => exact ⟨le2_trans (le2_long (chg k true) []) (by rw [plL]; exact le2_refl _), by simp [chL]⟩
  | cons x r =>
    obtain ⟨k1, d⟩ := x
    refine ⟨?_, by simp only [chL, chN]; omega⟩
    rw [plL, plL]
    by_cases h : k < k1
    · rw [toT_up upK dnK h, List.append_assoc]
      exact le2_refl _
    · rw [toT_dn upK dnK (show k1 ≤ k by omega), List.append_assoc]
      exact le2_trans (le2_long (dnK (k + 1)) _) (le2_long (chg k true) _)
theorem plL_dn {k : Nat} (hk : 0 < k) {p : List (Nat × Int)} : le2 (plL k p) (chg k false ++ plL (k - 1) p) ∧ chL k p ≤ chL (k - 1) p + 1 := by
  obtain ⟨q, rfl⟩ : ∃ q, k = q + 1 := ⟨k - 1, by omega⟩
  rw [Nat.add_sub_cancel]
  cases p with
  | nil => exact ⟨le2_trans (le2_long (chg (q + 1) false) []) (by rw [plL]; exact le2_refl _), by simp [chL]⟩
  | cons x r =>
    obtain ⟨k1, d⟩ := x
    refine ⟨?_, by simp only [chL, chN]; omega⟩
    rw [plL, plL]
    by_cases h : k1 ≤ q
    · rw [toT_dn upK dnK h, List.append_assoc]
      exact le2_refl _
    · rw [toT_up upK dnK (show q < k1 by omega), List.append_assoc]
      exact le2_trans (le2_long (upK q) _) (le2_long (chg (q + 1) false) _)
/-- a text is no shorter than the plan of its widths -/
theorem rd_parse : ∀ (n : Nat) (lo : Bool) (t : Tx) (k : Nat) (ds ws : List Int) (ch : Nat), t.length = n → k < 5 → bitsB t = true → rdF lo t k = some (ds, ws, ch, false) → ∃ p, okK p ∧ dsL p = ds ∧ wsL p = ws ∧ chL k p ≤ ch ∧ le2 (plL k p) t := by
  intro n
  induction n using Nat.strongRecOn with
  | _ n ih =>
    intro lo t k ds ws ch hn hk hb h
    have hw := okW_le (wid_ok k)
    by_cases h0 : t.length = 0
    · obtain rfl : t = [] := List.length_eq_zero_iff.1 h0
      have := rd_nil lo k [] [] 0
      rw [addR_nil, h] at this
      injection this with this
      injection this with e1 this
      injection this with e2 this
      subst e1; subst e2
      exact ⟨[], (fun x hx => by cases hx), rfl, rfl, Nat.zero_le _, le2_refl _⟩
    · by_cases h1 : t.length < wid k
      · have := rd_short (lo := lo) h0 h1 [] [] 0
        rw [addR_nil, h] at this; cases this
      · have htl : (t.take (wid k)).length = wid k := by rw [List.length_take]; omega
        have htb := bits_take hb (wid k)
        cases hc : canD (wid k) (numB (t.take (wid k)))
        · have hmin : numB (t.take (wid k)) = -(hf (wid k)) := by
            have := canD_num htl
            rw [hc] at this
            simpa using this.symm
          have htw : t.take (wid k) = wordB (wid k) (-(hf (wid k))) := by
            have := word_num htb (by rw [htl]; exact hw.1)
            rw [htl, hmin] at this
            exact this.symm
          by_cases h2 : t.length = wid k
          · have := rd_stop (lo := lo) h0 h2 hc [] [] 0
            rw [addR_nil, h] at this; cases this
          · have hlt : wid k < t.length := by omega
            have hdl : (t.drop (wid k)).length = t.length - wid k := List.length_drop
            obtain ⟨c, t', hct⟩ : ∃ c t', t.drop (wid k) = c :: t' := by
              cases hd : t.drop (wid k) with
              | nil => rw [hd] at hdl; simp at hdl; omega
              | cons c t' => exact ⟨c, t', rfl⟩
            have ht' : t.drop (wid k + 1) = t' := by rw [← List.drop_drop, hct]; rfl
            have hbt' : bitsB t' = true := by rw [← ht']; exact bits_drop hb _
            have hlt' : t'.length < n := by rw [← ht', List.length_drop]; omega
            have hcb : bitB c = true := by
              have := bits_drop hb (wid k)
              rw [hct] at this
              unfold bitsB at this
              simp only [List.all_cons, Bool.and_eq_true] at this
              exact this.1
            have htt : t = t.take (wid k) ++ t.drop (wid k) := (List.take_append_drop _ _).symm
            by_cases h9 : c = 49
            · subst h9
              have := rd_up (lo := lo) hlt hc (by rw [hct]; rfl) [] [] 0
              rw [addR_nil, h, ht'] at this
              by_cases hk1 : k + 1 < 5
              · rw [if_pos hk1] at this
                cases hr : rdF true t' (k + 1) with
                | none => rw [hr] at this; cases this
                | some r =>
                  obtain ⟨ds', ws', ch', lo'⟩ := r
                  rw [hr] at this
                  simp [addR] at this
                  obtain ⟨rfl, rfl, hch, rfl⟩ := this
                  obtain ⟨p, h3, h4, h5, h6, h7⟩ := ih _ hlt' true t' (k + 1) ds ws ch' rfl hk1 hbt' hr
                  have hup := plL_up (k := k) (p := p)
                  refine ⟨p, h3, h4, h5, by omega, le2_trans hup.1 ?_⟩
                  rw [htt, htw, hct, show wordB (wid k) (-(hf (wid k))) ++ 49 :: t' = chg k true ++ t' by unfold chg; simp]
                  exact le2_pre (chg k true) h7
              · rw [if_neg hk1] at this; cases this
            · have h8 : c = 48 := by
                unfold bitB at hcb
                simp only [Bool.or_eq_true, beq_iff_eq] at hcb
                rcases hcb with e | e
                · exact e
                · exact absurd e h9
              subst h8
              have := rd_down (lo := lo) hlt hc (by rw [hct]; simp) [] [] 0
              rw [addR_nil, h, ht'] at this
              by_cases hk1 : 0 < k
              · rw [if_pos hk1] at this
                cases hr : rdF true t' (k - 1) with
                | none => rw [hr] at this; cases this
                | some r =>
                  obtain ⟨ds', ws', ch', lo'⟩ := r
                  rw [hr] at this
                  simp [addR] at this
                  obtain ⟨rfl, rfl, hch, rfl⟩ := this
                  obtain ⟨p, h3, h4, h5, h6, h7⟩ := ih _ hlt' true t' (k - 1) ds ws ch' rfl (by omega) hbt' hr
                  have hup := plL_dn hk1 (p := p)
                  refine ⟨p, h3, h4, h5, by omega, le2_trans hup.1 ?_⟩
                  rw [htt, htw, hct, show wordB (wid k) (-(hf (wid k))) ++ 48 :: t' = chg k false ++ t' by unfold chg; simp]
                  exact le2_pre (chg k false) h7
              · rw [if_neg hk1] at this; cases this
        · have := rd_word (lo := lo) h0 h1 hc [] [] 0
          rw [addR_nil, h] at this
          cases hr : rdF false (t.drop (wid k)) k with
          | none => rw [hr] at this; cases this
          | some r =>
            obtain ⟨ds', ws', ch', lo'⟩ := r
            rw [hr] at this
            simp [addR] at this
            obtain ⟨rfl, rfl, rfl, rfl⟩ := this
            obtain ⟨p, h3, h4, h5, h6, h7⟩ := ih _ (by rw [List.length_drop]; omega) false (t.drop (wid k)) k ds' ws' ch rfl hk (bits_drop hb _) hr
            have htw := word_num htb (by rw [htl]; exact hw.1)
            rw [htl] at htw
            refine ⟨(k, numB (t.take (wid k))) :: p, ?_, by simp [dsL] at h4 ⊢; exact h4, by simp [wsL] at h5 ⊢; exact h5, by simp only [chL, chN]; omega, ?_⟩
            · intro x hx
              rcases List.mem_cons.1 hx with rfl | hx
              · exact ⟨hk, hc⟩
              · exact h3 x hx
            · rw [plL, toT_self, List.nil_append, htw]
              have := le2_pre (t.take (wid k)) h7
              rwa [List.take_append_drop] at this
/-! ### lengths -/
theorem wide_len : ∀ ds : List Int, (plL 4 (ds.map fun d => (4, d))).length = 11 * ds.length
  | [] => rfl
  | d :: r => by
    rw [List.map_cons, plL, toT_self, List.nil_append, List.length_append, wordB_len, wide_len r, List.length_cons]
    show 11 + _ = _
    omega
theorem wide_len2 (ds : List Int) : (plL 2 (ds.map fun d => (4, d))).length ≤ 11 + 11 * ds.length := by
  cases ds with
  | nil => simp [plL]
  | cons d r =>
    have h1 := wide_len r
    rw [List.map_cons, plL, List.length_append, List.length_append, wordB_len, h1, List.length_cons]
    have : (toT upK dnK 2 4).length = 11 := by decide +kernel
    rw [this]
    show 11 + (11 + _) ≤ _
    omega
theorem wid_mono {i k : Nat} (h : i ≤ k) : wid i ≤ wid k := by
  match i, k, h with
  | 0, k, _ => exact (okW_le (wid_ok k)).1
  | 1, 0, h => omega
  | 1, 1, _ => exact Nat.le_refl _
  | 1, 2, _ => decide
  | 1, 3, _ => decide
  | 1, k + 4, _ => exact show 2 ≤ 11 by decide
  | 2, 0, h => omega
  | 2, 1, h => omega
  | 2, 2, _ => exact Nat.le_refl _
  | 2, 3, _ => decide
  | 2, k + 4, _ => exact show 3 ≤ 11 by decide
  | 3, 0, h => omega
  | 3, 1, h => omega
  | 3, 2, h => omega
  | 3, 3, _ => exact Nat.le_refl _
  | 3, k + 4, _ => exact show 6 ≤ 11 by decide
  | i + 4, 0, h => omega
  | i + 4, 1, h => omega
  | i + 4, 2, h => omega
  | i + 4, 3, h => omega
  | i + 4, k + 4, _ => exact Nat.le_refl _
def smL : List Int → Nat
  | [] => 0
  | d :: r => wid (lwK d) + smL r
theorem smL_le : ∀ (p : List (Nat × Int)) (j : Nat), okK p → smL (dsL p) ≤ (plL j p).length
  | [], _, _ => Nat.zero_le _
  | (k, d) :: r, j, hok => by
    have ih := smL_le r k fun x hx => hok x (List.mem_cons_of_mem _ hx)
    have hc := (hok (k, d) List.mem_cons_self).2
    have hk : lwK d ≤ k := by
      rcases Nat.lt_or_ge k (lwK d) with h | h
      · have := lwK_no h
        rw [hc] at this; cases this
      · exact h
    have := wid_mono hk
    show wid (lwK d) + smL (dsL r) ≤ _
    rw [plL, List.length_append, List.length_append, wordB_len]
    omega
theorem smW_smL (ds : List Int) : ∀ i, i ≤ ds.length → smW ds i + (smL (ds.drop i) : Int) = (smL ds : Int)
  | 0, _ => by simp [smW]
  | i + 1, h => by
    rw [← smW_smL ds i (by omega), smW]
    have hlt : i < ds.length := by omega
    rw [List.drop_eq_getElem_cons hlt]
    have : ix ds i = ds[i] := by simp [ix, hlt]
    rw [this]
    simp only [smL]
    omega
theorem smW_all (ds : List Int) : smW ds ds.length = (smL ds : Int) := by
  have := smW_smL ds ds.length (Nat.le_refl _)
  rw [List.drop_length] at this
  simpa [smL] using this
end Go.Proofs.YtkjiancdhaocaaaDoor
