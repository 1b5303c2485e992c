/- What the laws of chapter wave ask of texts and plans: plain. -/
import Derived.Test.YtkjiancdhaocaaaDoorWvPb
import Derived.Test.YtkjiancdhaocaaaDoorWvQe
namespace Go.Proofs.YtkjiancdhaocaaaDoor
open Go.RowKit
set_option linter.unusedSimpArgs false
set_option linter.unusedVariables false

theorem difs_ok {s : List Int} (h : vldW s = true) : smpOk (difs s) = true := by
  rw [smpOk_end fun i hi => by
    rw [difs_len] at hi
    rw [difs_ix s hi]
    exact btw_iff.2 (difA_small h hi), accL_difs, h]
theorem deV_eq {t : Tx} {d ws : List Int} {m : Nat} (hv : vbB t = true) (ho : deO t = some (d, ws, m)) : deE t = 0 ∧ dD t = d ∧ dW t = ws ∧ dC t = m := by
  rcases de_cases t with ⟨h, -⟩ | ⟨-, h, -⟩ | ⟨d', ws', m', -, h, hE, hd, hw, hc⟩
  · rw [hv] at h; cases h
  · rw [ho] at h; cases h
  · rw [ho] at h
    injection h with h
    injection h with e1 h
    injection h with e2 e3
    subst e1; subst e2; subst e3
    exact ⟨hE, hd, hw, hc⟩
/-- the text of a plan says the plan -/
theorem plan_says {s : List Int} {p : List (Nat × Int)} (h : vldW s = true) (hp : okK p) (hd : dsL p = difs s) (hl : (plL 2 p).length ≤ 1000) :
    deE (plL 2 p) = 0 ∧ dD (plL 2 p) = difs s ∧ dW (plL 2 p) = wsL p ∧ dC (plL 2 p) = chL 2 p ∧ isV s (plL 2 p) = true ∧ isE s (plL 2 p) = 0 := by
  have hv : vbB (plL 2 p) = true := vbB_iff.2 ⟨hl, bits_plL p 2 (by decide) hp⟩
  have ho : deO (plL 2 p) = some (difs s, wsL p, chL 2 p) := by
    rw [deO_some (rdF_plL (by decide) hp), if_pos ⟨by rw [hd]; exact difs_ok h, rfl⟩, hd]
  obtain ⟨h1, h2, h3, h4⟩ := deV_eq hv ho
  refine ⟨h1, h2, h3, h4, ?_, ?_⟩
  · unfold isV deV
    rw [h, hv, if_pos rfl, ho]
    simp
  · unfold isE
    rw [h, hv]
    rfl
theorem okK_ix {p : List (Nat × Int)} (hp : okK p) {i : Nat} (hi : i < p.length) : (p[i]).1 < 5 ∧ canD (wid (p[i]).1) (p[i]).2 = true := hp _ (List.getElem_mem hi)
/-- the plan of the widths of a plan -/
theorem plan_of {s : List Int} {p : List (Nat × Int)} (h : vldW s = true) (hp : okK p) (hd : dsL p = difs s) (hl : (plL 2 p).length ≤ 1000) :
    planE s (wsL p) = 0 ∧ planX s (wsL p) = plL 2 p ∧ (wsL p).length = s.length := by
  have hlen : p.length = s.length := by
    have := congrArg List.length hd
    rw [difs_len] at this
    simpa [dsL] using this
  have hwl : (wsL p).length = s.length := by simp [wsL, hlen]
  have hwx : ∀ i (hi : i < p.length), ix (wsL p) i = (wid (p[i]).1 : Int) := fun i hi => by simp [ix, wsL, hi]
  have hkf : ∀ i (hi : i < p.length), kfW (wsL p) i = (p[i]).1 := fun i hi => by
    unfold kfW
    rw [hwx i hi, kxI_yes (okK_ix hp hi).1, Int.toNat_natCast]
  have hdx : ∀ i (hi : i < p.length), ix (difs s) i = (p[i]).2 := fun i hi => by rw [← hd]; simp [ix, dsL, hi]
  have hbp : badP (wsL p) = false := anyF_no.2 fun i hi => by
    have hi' : i < p.length := by rw [hwl] at hi; omega
    rw [hwx i hi', okB_wid (okK_ix hp hi').1]
    rfl
  have hnd : noD s (wsL p) = false := anyF_no.2 fun i hi => by
    have hi' : i < p.length := by omega
    rw [hkf i hi', hdx i hi', (okK_ix hp hi').2]
    rfl
  have hpw : plW s (wsL p) = plL 2 p := by
    unfold plW
    rw [plT_all]
    congr 1
    refine List.ext_getElem (by simp [prS, hlen]) fun i h1 h2 => ?_
    simp only [prS, List.getElem_map, List.getElem_range']
    rw [show 0 + 1 * i = i by omega, hkf i h2, hdx i h2]
  have hE : planE s (wsL p) = 0 := by
    unfold planE
    rw [if_pos h, if_pos ⟨hwl, hbp⟩, hnd, hpw, if_neg (by decide), if_neg (by omega)]
  exact ⟨hE, by unfold planX; rw [hE, if_pos rfl, hpw], hwl⟩
/-- what a plan that is made is -/
theorem plan_made {s ws : List Int} (h : vldW s = true) (hE : planE s ws = 0) : ∃ p, okK p ∧ dsL p = difs s ∧ wsL p = ws ∧ planX s ws = plL 2 p ∧ (plL 2 p).length ≤ 1000 := by
  have hx : planX s ws = plW s ws := by unfold planX; rw [hE, if_pos rfl]
  unfold planE at hE
  rw [if_pos h] at hE
  by_cases h1 : ws.length = s.length ∧ badP ws = false
  · rw [if_pos h1] at hE
    by_cases h2 : noD s ws = true
    · rw [if_pos h2] at hE; cases hE
    · rw [if_neg h2] at hE
      by_cases h3 : 1000 < (plW s ws).length
      · rw [if_pos h3] at hE; cases hE
      · have hnd : noD s ws = false := by simpa using h2
        have hk : ∀ i, i < s.length → kfW ws i < 5 ∧ canD (wid (kfW ws i)) (ix (difs s) i) = true := fun i hi => by
          refine ⟨(badP_no h1.2 (by omega)).1, ?_⟩
          have := anyF_no.1 hnd i hi
          simpa using this
        have hpw : plW s ws = plL 2 (prS (kfW ws) (difs s) 0 s.length) := plT_all _ _ _
        refine ⟨prS (kfW ws) (difs s) 0 s.length, okK_prS hk, ?_, ?_, by rw [hx, hpw], by rw [← hpw]; omega⟩
        · have := dsL_prS (kfW ws) (difs s)
          rwa [difs_len] at this
        · have := wsL_prS (kf := kfW ws) (ds := difs s) (ws := ws) (by rw [difs_len]; exact h1.1) (fun i hi => (badP_no h1.2 (by rw [difs_len] at hi; omega)).2)
          rwa [difs_len] at this
  · rw [if_neg h1] at hE; cases hE
theorem planE_cases {s ws : List Int} (h : vldW s = true) : planE s ws = 0 ∨ ((planE s ws = 2 ∨ planE s ws = 5 ∨ planE s ws = 4) ∧ planX s ws = []) := by
  have hc : planE s ws = 0 ∨ planE s ws = 2 ∨ planE s ws = 5 ∨ planE s ws = 4 := by
    unfold planE
    rw [if_pos h]
    split
    · split
      · exact .inr (.inr (.inl rfl))
      · split
        · exact .inr (.inr (.inr rfl))
        · exact .inl rfl
    · exact .inr (.inl rfl)
  rcases hc with h0 | h0
  · exact .inl h0
  · refine .inr ⟨h0, ?_⟩
    unfold planX
    rw [if_neg (by omega)]
/-- the shortest text is the text of a plan, no longer than 451 bits -/
theorem enc_plan {s : List Int} (h : vldW s = true) : ∃ p, okK p ∧ dsL p = difs s ∧ encT s = plL 2 p ∧ encE s = 0 := by
  have hr : ∀ d ∈ difs s, -1023 ≤ d ∧ d ≤ 1023 := fun d hd => by
    obtain ⟨i, hi, rfl⟩ := List.mem_iff_getElem.1 hd
    have := difs_small h i hi
    simpa [ix, hi] using this
  obtain ⟨p, h1, h2, h3⟩ := encF_plan (difs s) hr 2 (by decide)
  refine ⟨p, h1, h2, ?_, by unfold encE; rw [h]; rfl⟩
  unfold encT
  rw [h, if_pos rfl, h3]
  rfl
/-- no plan is less -/
theorem enc_best {s : List Int} (h : vldW s = true) {p : List (Nat × Int)} (hp : okK p) (hd : dsL p = difs s) : leT (encT s) (plL 2 p) = true := by
  have hb := encF_best p hp 2 (by decide)
  rw [hd] at hb
  unfold encT
  rw [h, if_pos rfl]
  cases he : encF (difs s) 2 with
  | none => rw [he] at hb; exact hb.elim
  | some x => rw [he] at hb; exact hb
theorem leT_len {a b : Tx} (h : leT a b = true) : a.length ≤ b.length := by
  rw [leT_iff] at h
  omega
/-- the plan of wide words -/
theorem wide_plan {s : List Int} (h : vldW s = true) : okK ((difs s).map fun d => (4, d)) ∧ dsL ((difs s).map fun d => (4, d)) = difs s ∧ wideT s = plL 2 ((difs s).map fun d => (4, d)) ∧ (wideT s).length ≤ 451 := by
  obtain ⟨-, hv2, -⟩ := vldW_iff.1 h
  have hw : wideT s = plL 2 ((difs s).map fun d => (4, d)) := by
    unfold wideT
    rw [if_pos h, plT_all]
    congr 1
    refine List.ext_getElem (by simp [prS, difs_len]) fun i h1 h2 => ?_
    have hi : i < (difs s).length := by simpa using h2
    simp [prS, ix, hi]
  refine ⟨?_, by simp [dsL, Function.comp_def], hw, ?_⟩
  · intro x hx
    obtain ⟨d, hd, rfl⟩ := List.mem_map.1 hx
    obtain ⟨i, hi, rfl⟩ := List.mem_iff_getElem.1 hd
    refine ⟨show 4 < 5 by decide, ?_⟩
    have := wide_can h (i := i) (by rw [difs_len] at hi; exact hi)
    simpa [ix, hi, wid] using this
  · rw [hw]
    have := wide_len2 (difs s)
    rw [difs_len] at this
    omega
theorem enc_len {s : List Int} (h : vldW s = true) : (encT s).length ≤ (wideT s).length ∧ (encT s).length ≤ 451 := by
  obtain ⟨h1, h2, h3, h4⟩ := wide_plan h
  have := leT_len (enc_best h h1 h2)
  rw [← h3] at this
  exact ⟨this, by omega⟩
theorem bound_le {s : List Int} (h : vldW s = true) : boundV s ≤ ((encT s).length : Int) := by
  obtain ⟨p, h1, h2, h3, -⟩ := enc_plan h
  have := smL_le p 2 h1
  rw [h2, ← h3] at this
  unfold boundV
  rw [if_pos h]
  have h4 := smW_all (difs s)
  rw [difs_len] at h4
  rw [h4]
  omega
/-- a text that is one of a wave form -/
theorem text_plan {t : Tx} (h : deE t = 0) : vldW (accL (dD t)) = true ∧ ∃ p, okK p ∧ dsL p = dD t ∧ wsL p = dW t ∧ chL 2 p ≤ dC t ∧ le2 (plL 2 p) t ∧ t.length ≤ 1000 := by
  rcases de_cases t with ⟨-, hE, -⟩ | ⟨-, -, hE, -⟩ | ⟨d, ws, m, hv, ho, -, hd, hw, hc⟩
  · rw [hE] at h; cases h
  · rw [hE] at h; cases h
  · obtain ⟨hs, hr⟩ := deO_ok ho
    obtain ⟨hl, hb⟩ := vbB_iff.1 hv
    obtain ⟨p, h1, h2, h3, h4, h5⟩ := rd_parse _ false t 2 d ws m rfl (by decide) hb hr
    refine ⟨?_, p, h1, by rw [hd]; exact h2, by rw [hw]; exact h3, by rw [hc]; exact h4, h5, hl⟩
    rw [hd]
    unfold smpOk at hs
    simp only [Bool.and_eq_true] at hs
    exact hs.2
theorem isV_text {s : List Int} {t : Tx} (h : isV s t = true) : vldW s = true ∧ deE t = 0 ∧ dD t = difs s := by
  unfold isV at h
  rw [Bool.and_eq_true] at h
  refine ⟨h.1, ?_⟩
  rcases de_cases t with ⟨hv, -⟩ | ⟨hv, ho, -⟩ | ⟨d, ws, m, hv, ho, hE, hd, -⟩
  · have h2 := h.2
    unfold deV at h2
    rw [hv] at h2
    cases h2
  · have h2 := h.2
    unfold deV at h2
    rw [hv, if_pos rfl, ho] at h2
    cases h2
  · have h2 := h.2
    unfold deV at h2
    rw [hv, if_pos rfl, ho] at h2
    exact ⟨hE, by rw [hd]; simpa using h2⟩
end Go.Proofs.YtkjiancdhaocaaaDoor
