/- Walks over package wave and its reference: the number of a width, the text of a plan. -/
import Derived.Test.YtkjiancdhaocaaaDoorWvS
namespace Go.Proofs.YtkjiancdhaocaaaDoor
open Go.RowKit Go.Shelf
set_option linter.unusedSimpArgs false
set_option linter.unusedVariables false
attribute [local go_sem] Oper.semAt_some

/-! ### the number of a width -/
def widL : List Int := [1, 2, 3, 6, 11]
def kxI (v : Int) : Int := idxF (fun k => v == ix widL k) widL.length
theorem widL_ix {k : Nat} (h : k < 5) : ix widL k = (wid k : Int) := by
  have : k = 0 ∨ k = 1 ∨ k = 2 ∨ k = 3 ∨ k = 4 := by omega
  rcases this with rfl | rfl | rfl | rfl | rfl <;> rfl
theorem wid_inj {i k : Nat} (hi : i < 5) (hk : k < 5) (h : wid i = wid k) : i = k := by
  have a : ∀ i k : Fin 5, wid i = wid k → i = k := by decide
  exact congrArg Fin.val (a ⟨i, hi⟩ ⟨k, hk⟩ h)
theorem kxI_yes {k : Nat} (hk : k < 5) : kxI (wid k) = k := by
  refine idxF_hit hk ?_ fun t ht => ?_
  · rw [widL_ix hk]; simp
  · rw [widL_ix (by omega), beq_eq_false_iff_ne]
    intro e
    have := wid_inj hk (by omega) (Int.ofNat.inj e)
    omega
theorem kxI_no {v : Int} (h : ∀ k, k < 5 → v ≠ (wid k : Int)) : kxI v = -1 :=
  idxF_miss fun t ht => by rw [widL_ix ht, beq_eq_false_iff_ne]; exact h t ht
/-- a width or none -/
def okB (v : Int) : Bool := decide (0 ≤ kxI v)
theorem okB_cases (v : Int) : (okB v = true ∧ ∃ k, k < 5 ∧ v = (wid k : Int)) ∨ (okB v = false ∧ ∀ k, k < 5 → v ≠ (wid k : Int)) := by
  by_cases h : ∃ k, k < 5 ∧ v = (wid k : Int)
  · obtain ⟨k, hk, rfl⟩ := h
    refine .inl ⟨?_, k, hk, rfl⟩
    unfold okB
    rw [kxI_yes hk]
    simp
  · refine .inr ⟨?_, fun k hk e => h ⟨k, hk, e⟩⟩
    unfold okB
    rw [kxI_no fun k hk e => h ⟨k, hk, e⟩]
    decide
set_option maxHeartbeats 1000000 in
theorem IndexI_any (A : Option Addr) (c : Nat) (l : List Int) (v : Int) (w : World) (hr : RdI w w.heap.size A l) (hl : l.length ≤ 1000000) :
    Calls Tryd.prog 52 #[.slice A l.length c, .int .i64 v] w fun e w' => e = .returned (.int .i64 (idxF (fun k => v == ix l k) l.length)) ∧ w' = w := by
  have HR := Lib.hid hr; clear hr
  generalize hq : idxF (fun k => v == ix l k) l.length = res
  have HQ := Lib.hid hq; clear hq
  generalize hn : l.length = n at *
  have HN := Lib.hid hn; clear hn
  go_enter Tryd.func52, Tryd.ntmps52
  go_wp2
  go_loopg [8] n (fun k s wr => ∃ i : Nat, s = .int .i64 i ∧ i ≤ n ∧ n - i ≤ k ∧ wr = w ∧ Aside (∀ t, t < i → (v == ix l t) = false))
  case atStart => exact ⟨0, rfl, by omega, by omega, rfl, (fun t ht => absurd ht (Nat.not_lt_zero t) : ∀ t, t < 0 → (v == ix l t) = false)⟩
  case round =>
    obtain ⟨i, rfl, hi, hk, rfl, HA⟩ := hrel
    by_cases hlt : i < n
    · obtain ⟨b, o, rfl, hb, c1⟩ := HR.out.at_ (k := i) (by rw [HN.out]; exact hlt)
      cases hpi : v == ix l i
      all_goals
        have HPI := Lib.hid hpi
        generalize hx : ix l i = x at *
        have HX := Lib.hid hx
        clear hx
        go_wp2
      · go_roundg (n - (i + 1))
        case measure => omega
        case rel => exact ⟨i + 1, by go_num, by omega, by omega, rfl, fun t ht => by
            rcases Nat.lt_succ_iff_lt_or_eq.1 ht with h | rfl
            · exact HA.out t h
            · rw [HX.out]; exact HPI.out⟩
      · go_ret
        exact ⟨ret_int (by rw [← HQ.out]; exact (idxF_hit hlt (by rw [HX.out]; exact HPI.out) HA.out).symm), rfl⟩
    · obtain rfl : i = n := by omega
      go_wp2
      go_ret
      exact ⟨ret_int (by rw [← HQ.out]; exact (idxF_miss HA.out).symm), rfl⟩
set_option maxHeartbeats 1000000 in
theorem index_any (v : Int) (w : World) : Calls Tryd.prog 31 #[.int .i64 v] w fun e w' => e = .returned (.int .i64 (kxI v)) ∧ Below w.heap.size w w' := by
  have HWI := Lib.hid widths_any
  unfold widV at HWI
  go_enter Tryd.func31, Tryd.ntmps31
  go_upto_region 2 with (go_at_call 25; refine (HWI.out _).mono ?_; rintro e w1 ⟨rfl, h1⟩)
  have hbw := Box.new w1 47 #[.int .i64 1, .int .i64 2, .int .i64 3, .int .i64 6, .int .i64 11]
  have hb1 := h1.trs (below_alloc w1 (.cells #[.int .i64 1, .int .i64 2, .int .i64 3, .int .i64 6, .int .i64 11] 47))
  generalize hw2 : w1.alloc (.cells #[.int .i64 1, .int .i64 2, .int .i64 3, .int .i64 6, .int .i64 11] 47) = w2 at *
  have hrd : RdI w2 w2.heap.size (some ⟨w1.heap.size, 0, none⟩) widL := .inr ⟨_, 0, rfl, hbw.lt, fun k hk => by
    rw [Nat.zero_add, Box.cell hbw]
    have : k = 0 ∨ k = 1 ∨ k = 2 ∨ k = 3 ∨ k = 4 := by simp [widL] at hk; omega
    rcases this with rfl | rfl | rfl | rfl | rfl <;> rfl⟩
  have HIX := Lib.hid (IndexI_any _ 5 widL v w2 hrd (by simp [widL]))
  rw [show idxF (fun k => v == ix widL k) widL.length = kxI v from rfl, show widL.length = 5 from rfl] at HIX
  have HB := Lib.hid hb1
  clear hrd hbw hb1 hw2 h1
  generalize w1.heap.size = g at *
  go_wp2_with (go_at_call 52; refine HIX.out.mono ?_; rintro e w3 ⟨rfl, rfl⟩)
  go_ret
  exact ⟨rfl, HB.out⟩
set_option maxHeartbeats 1000000 in
theorem steps_any (i : Nat) (w : World) (hi : i < 5) : Calls Tryd.prog 48 #[.int .i64 i] w fun e w' => e = .returned (.int .i64 (wid i)) ∧ Below w.heap.size w w' := by
  have HWI := Lib.hid widths_any
  have HVX := Lib.hid (index_wid i hi)
  unfold widV at HWI
  generalize wid i = x at *
  go_enter Tryd.func48, Tryd.ntmps48
  go_wp2_with (first
    | (go_at_call 25; refine (HWI.out _).mono ?_; rintro e w1 ⟨rfl, h1⟩)
    | (rw [HVX.out]))
  go_ret
  exact ⟨rfl, h1⟩
/-- the width before difference number i -/
def nwP (kf : Nat → Nat) : Nat → Nat
  | 0 => 2
  | i + 1 => kf i
def plT (ds : List Int) (kf : Nat → Nat) : Nat → Tx
  | 0 => []
  | i + 1 => plT ds kf i ++ (toT upK dnK (nwP kf i) (kf i) ++ wordB (wid (kf i)) (ix ds i))
theorem nwP_lt {kf : Nat → Nat} {n : Nat} (h : ∀ i, i < n → kf i < 5) : ∀ {i}, i ≤ n → nwP kf i < 5
  | 0, _ => show 2 < 5 by decide
  | i + 1, hi => h i (by omega)
theorem plT_le {ds : List Int} {kf : Nat → Nat} {n : Nat} (h : ∀ i, i < n → kf i < 5) : ∀ {i}, i ≤ n → (plT ds kf i).length ≤ 71 * i
  | 0, _ => by simp [plT]
  | i + 1, hi => by
    rw [plT, List.length_append, List.length_append, wordB_len]
    have h1 := plT_le h (ds := ds) (i := i) (by omega)
    have h2 := toT_le (nwP_lt h (i := i) (by omega)) (h i (by omega))
    have h3 := (okW_le (wid_ok (kf i))).2
    omega
theorem plT_ne {ds : List Int} {kf : Nat → Nat} {n : Nat} (h1 : 1 ≤ n) : plT ds kf n ≠ [] := by
  obtain ⟨m, rfl⟩ : ∃ m, n = m + 1 := ⟨n - 1, by omega⟩
  intro e
  have := congrArg List.length e
  rw [plT, List.length_append, List.length_append, wordB_len] at this
  have := (okW_le (wid_ok (kf m))).1
  simp at *
  omega
theorem Bld.on {w w' : World} {B b : Nat} {l : List UInt8} (h : Bld B b l w) (hb : Below w.heap.size w w') : Bld B b l w' := by
  have h0 : ∀ p, Lib.BuilderAt 78 5 B b p (Lib.byteCells l) w → Lib.BuilderAt 78 5 B b p (Lib.byteCells l) w' := fun p hp => by
    have hlt := hp.lt
    obtain ⟨h1, v, h2, h3, h4⟩ := hp
    exact ⟨h1, v, (hb.block b hlt).trans h2, h3.kept (row := none) ⟨hb.os, hb.tape, hb.output, hb.size, fun k hk _ => hb.block k hk⟩ (by cases v.ownBlock <;> simp), h4⟩
  rcases h with h | h
  · exact .inl (h0 _ h)
  · exact .inr (h0 _ h)
theorem Bld.lt {w : World} {B b : Nat} {l : List UInt8} (h : Bld B b l w) : B ≤ b ∧ b < w.heap.size := by
  rcases h with h | h <;> exact ⟨h.1, h.lt⟩
set_option maxRecDepth 100000 in
set_option maxHeartbeats 4000000 in
theorem plan_any (A : Option Addr) (c : Nat) (A2 : Option Addr) (c2 : Nat) (ds ws : List Int) (kf : Nat → Nat) (w : World) (hr : RdI w w.heap.size A ds) (hr2 : RdI w w.heap.size A2 ws) (hl1 : 1 ≤ ds.length) (hl : ds.length ≤ 1000) (hlw : ws.length = ds.length)
    (hk : ∀ i, i < ds.length → kf i < 5 ∧ ix ws i = (wid (kf i) : Int) ∧ canD (wid (kf i)) (ix ds i) = true) :
    Calls Tryd.prog 22 #[.slice A ds.length c, .slice A2 ds.length c2] w fun e w' => e = .returned (.string ⟨(plT ds kf ds.length).toArray⟩) ∧ Below w.heap.size w w' := by
  have HR := Lib.hid hr
  have HR2 := Lib.hid hr2
  have HK := Lib.hid hk
  have hk5 : ∀ i, i < ds.length → kf i < 5 := fun i hi => (hk i hi).1
  have HNW := Lib.hid (fun i (hi : i ≤ ds.length) => nwP_lt hk5 hi)
  have HPL := Lib.hid (fun i (hi : i ≤ ds.length) => plT_le (ds := ds) hk5 hi)
  have HP0 : Hid (plT ds kf 0 = []) := Lib.hid rfl
  have HPS : Hid (∀ i, plT ds kf (i + 1) = plT ds kf i ++ (toT upK dnK (nwP kf i) (kf i) ++ wordB (wid (kf i)) (ix ds i))) := Lib.hid fun _ => rfl
  have HPN := Lib.hid (plT_ne (ds := ds) (kf := kf) hl1)
  have HN0 : Hid (nwP kf 0 = 2) := Lib.hid rfl
  have HNS : Hid (∀ i, nwP kf (i + 1) = kf i) := Lib.hid fun _ => rfl
  have HF := Lib.hid (Bld.fresh w)
  have HBL := Lib.hid (below_alloc w (.cells #[.pointer none, .slice none 0 0] 78))
  have HIX := Lib.hid (fun v W => index_any v W)
  have HKX := Lib.hid (fun k (h : k < 5) => kxI_yes h)
  have HSP := Lib.hid (fun i W (h : i < 5) => steps_any i W h)
  have HCG := Lib.hid (fun k up W => change_any k up W)
  have HCL := Lib.hid (fun k up => chg_len k up)
  have HWD := Lib.hid (fun k d W (h : canD (wid k) d = true) => word_any (wid k) d W (okW_le (wid_ok k)) (by have := btw_iff.1 h; have := hf_le (wid_ok k); omega) (by have := btw_iff.1 h; have := hf_le (wid_ok k); omega))
  have HWS := Lib.hid (fun l s W (h : Bld w.heap.size w.heap.size l W) (h2 : l.length + s.length ≤ 140737488355328) (h3 : w.heap.size ≤ W.heap.size) => WriteString_any w.heap.size w.heap.size l s W h h2 h3)
  have HTU := Lib.hid (fun j k (h : j < k) => toT_up upK dnK (i := j) (k := k) h)
  have HTD := Lib.hid (fun j k (h : k ≤ j) => toT_dn upK dnK (i := j) (k := k) h)
  have HTS := Lib.hid (toT_self upK dnK)
  have HTL := Lib.hid (fun i k (h1 : i < 5) (h2 : k < 5) => toT_le h1 h2)
  have HUK : Hid (∀ j, upK j = chg j true) := Lib.hid (fun _ => rfl)
  have HDK : Hid (∀ j, dnK j = chg j false) := Lib.hid (fun _ => rfl)
  clear hr hr2 hk hk5
  generalize plT ds kf = pl at *
  generalize nwP kf = nw at *
  generalize hT : toT upK dnK = T at *
  generalize upK = U at *
  generalize dnK = D at *
  clear hT
  generalize hn : ds.length = n at *
  have HN := Lib.hid (And.intro hn hlw)
  clear hn hlw
  go_enter Tryd.func22, Tryd.ntmps22
  go_upto_region 2 with (fail)
  generalize hW0 : w.alloc (.cells #[.pointer none, .slice none 0 0] 78) = W0 at *
  clear hW0
  generalize hb0 : w.heap.size = b0 at *
  have HB0 := Lib.hid hb0
  clear hb0
  go_wp2
  go_loopg [6, 13] n (fun gk u t wr => ∃ i : Nat, t = .int .i64 i ∧ u = .int .i64 (nw i) ∧ i ≤ n ∧ n - i ≤ gk ∧ Bld b0 b0 (pl i) wr ∧ Below b0 w wr)
  case atStart => exact ⟨0, rfl, by rw [HN0.out]; rfl, by omega, by omega, by rw [HP0.out]; exact HF.out, HBL.out⟩
  case round =>
    obtain ⟨i, rfl, rfl, hi, hgk, hX, hB⟩ := hrel
    by_cases hlt : i < n
    · obtain ⟨hk5, hws, hcan⟩ := HK.out i hlt
      obtain ⟨b, o, rfl, hb1, d1⟩ := HR.out.at_ (k := i) (by rw [HN.out.1]; exact hlt)
      obtain ⟨b2, o2, rfl, hb2, d2⟩ := HR2.out.at_ (k := i) (by rw [HN.out.2]; exact hlt)
      rw [hws] at d2
      have c1 := (hB.cell (p := ⟨b, o + i, none⟩) hb1).trans d1
      have c2 := (hB.cell (p := ⟨b2, o2 + i, none⟩) hb2).trans d2
      have HPi := Lib.hid (HPS.out i)
      have HNi := Lib.hid (HNS.out i)
      have hnw := HNW.out i (by omega)
      have hpl := HPL.out i (by omega)
      have hTl := HTL.out (nw i) (kf i) hnw hk5
      have HIXk := Lib.hid (fun W => HIX.out (wid (kf i)) W)
      rw [HKX.out _ hk5] at HIXk
      have HWDk := Lib.hid (fun W => HWD.out (kf i) (ix ds i) W hcan)
      have hin : (i : Int) < (n : Int) := by omega
      have hi0 : (0 : Int) ≤ (i : Int) := by omega
      have HD := Lib.hid (And.intro hb1 (And.intro hb2 (And.intro d1 d2)))
      have HXB := Lib.hid (And.intro hX hB)
      have HL := Lib.hid (And.intro hlt (And.intro hi hgk))
      have hwl := Nat.le_of_eq (wordB_len (wid (kf i)) (ix ds i))
      have hwo := okW_le (wid_ok (kf i))
      clear hws hcan hX hB d1 d2 hb1 hb2 hgk
      generalize wordB (wid (kf i)) (ix ds i) = V at *
      generalize ix ds i = d at *
      generalize kf i = k at *
      go_wp2_with (go_at_call 31; refine (HIXk.out _).mono ?_; rintro e w2 ⟨rfl, h2⟩)
      go_loopg [6] 5 (fun gk u wq => ∃ (m : Nat) (X : Tx), u = .int .i64 m ∧ m < 5 ∧ X ++ T m k = T (nw i) k ∧ (m - k) + (k - m) ≤ gk ∧ Bld b0 b0 (pl i ++ X) wq ∧ Below b0 w wq)
      case atStart => exact ⟨nw i, [], rfl, hnw, rfl, by omega, by rw [List.append_nil]; exact HXB.out.1.on h2, HXB.out.2.trans (h2.mono (by rw [← HB0.out]; exact HXB.out.2.size))⟩
      case round =>
        obtain ⟨m, X, rfl, hm, hX, hgk, hBX, hB⟩ := hrel
        have hXl : X.length ≤ 60 := by
          have := congrArg List.length hX
          rw [List.length_append] at this
          omega
        by_cases hmk : m = k
        · subst hmk
          rw [HTS.out, List.append_nil] at hX
          have c1 := (hB.cell (p := ⟨b, o + i, none⟩) HD.out.1).trans HD.out.2.2.1
          have c2 := (hB.cell (p := ⟨b2, o2 + i, none⟩) HD.out.2.1).trans HD.out.2.2.2
          have HX := Lib.hid (And.intro hX (And.intro hBX hB))
          have HWSk := Lib.hid (fun W h h2 => HWS.out (pl i ++ X) V W h (by rw [List.length_append]; omega) h2)
          have hbz : b0 ≤ wr.heap.size := by rw [← HB0.out]; exact hB.size
          clear hX hBX hB
          generalize wid m = wk at *
          go_wp2_with (first
            | (go_at_call 44; refine (HWDk.out _).mono ?_; rintro e w3 ⟨rfl, h3⟩)
            | (go_at_call 47; refine (HWSk.out _ (HX.out.2.1.on h3) (Nat.le_trans hbz h3.size)).mono ?_; rintro e w4 ⟨rfl, h4, h5⟩))
          go_roundg (n - (i + 1))
          case measure => have := HL.out; omega
          case rel => exact ⟨i + 1, by go_num, by rw [HNi.out], by have := HL.out; omega, by omega, by rw [HPi.out, ← HX.out.1, ← List.append_assoc]; exact h4, (HX.out.2.2.trans (h3.mono hbz)).trans h5⟩
        · have hmk1 : ((m : Int) == (k : Int)) = false := by rw [beq_eq_false_iff_ne]; omega
          have hmk2 : ¬ (m : Int) = (k : Int) := by omega
          have HSPm := Lib.hid (fun W => HSP.out m W hm)
          have hbz : b0 ≤ wr.heap.size := by rw [← HB0.out]; exact hB.size
          by_cases hup : m < k
          · have hupI : (m : Int) < (k : Int) := by omega
            have HCGm := Lib.hid (fun W => HCG.out m true W)
            have hcl := HCL.out m true
            rw [HTU.out m k hup, HUK.out, ← List.append_assoc] at hX
            have HX := Lib.hid (And.intro hX (And.intro hBX hB))
            have HWSk := Lib.hid (fun W h h2 => HWS.out (pl i ++ X) (chg m true) W h (by rw [List.length_append]; omega) h2)
            clear hX hBX hB
            generalize chg m true = C at *
            generalize wid m = wk at *
            go_wp2_with (first
              | (go_at_call 48; refine (HSPm.out _).mono ?_; rintro e w3 ⟨rfl, h3⟩)
              | (go_at_call 46; refine (HCGm.out _).mono ?_; rintro e w4 ⟨rfl, h4⟩)
              | (go_at_call 47; refine (HWSk.out _ (HX.out.2.1.on (h3.trs h4)) (Nat.le_trans hbz (h3.trs h4).size)).mono ?_; rintro e w5 ⟨rfl, h5, h6⟩))
            go_roundg ((m + 1 - k) + (k - (m + 1)))
            case measure => omega
            case rel => exact ⟨m + 1, X ++ C, by go_num, by omega, HX.out.1, by omega, by rw [← List.append_assoc]; exact h5, (HX.out.2.2.trans ((h3.trs h4).mono hbz)).trans h6⟩
          · have hupI : (k : Int) ≤ (m : Int) := by omega
            obtain ⟨q, hq⟩ : ∃ q, m = q + 1 := ⟨m - 1, by omega⟩
            have HCGm := Lib.hid (fun W => HCG.out m false W)
            have hcl := HCL.out m false
            have hTD := HTD.out q k (by omega)
            rw [← hq] at hTD
            rw [hTD, HDK.out, ← List.append_assoc] at hX
            have HX := Lib.hid (And.intro hX (And.intro hBX hB))
            have HWSk := Lib.hid (fun W h h2 => HWS.out (pl i ++ X) (chg m false) W h (by rw [List.length_append]; omega) h2)
            have e1 : IntKind.i64.wrap ((m : Int) - 1) = (m : Int) - 1 := IntWalk.i64_in _ (by omega)
            have e2 : wrap64 ((m : Int) - 1) = (m : Int) - 1 := IntWalk.wrap64_in _ (by omega)
            have HQ := Lib.hid hq
            clear hX hBX hB hTD hq
            generalize chg m false = C at *
            generalize wid m = wk at *
            go_wp2_with (first
              | (go_at_call 48; refine (HSPm.out _).mono ?_; rintro e w3 ⟨rfl, h3⟩)
              | (go_at_call 46; refine (HCGm.out _).mono ?_; rintro e w4 ⟨rfl, h4⟩)
              | (go_at_call 47; refine (HWSk.out _ (HX.out.2.1.on (h3.trs h4)) (Nat.le_trans hbz (h3.trs h4).size)).mono ?_; rintro e w5 ⟨rfl, h5, h6⟩))
            go_roundg ((q - k) + (k - q))
            case measure => have := HQ.out; omega
            case rel => exact ⟨q, X ++ C, by rw [show (m : Int) - 1 = (q : Int) by have := HQ.out; omega], by have := HQ.out; omega, HX.out.1, by omega, by rw [← List.append_assoc]; exact h5, (HX.out.2.2.trans ((h3.trs h4).mono hbz)).trans h6⟩
    · obtain rfl : i = n := by omega
      have HS := Lib.hid (String_any _ _ _ _ hX HPN.out)
      have HB := Lib.hid hB
      clear hX hB
      go_wp2_with (go_at_call 49; refine HS.out.mono ?_; rintro e w2 ⟨rfl, h2⟩)
      go_ret
      exact ⟨rfl, by rw [HB0.out]; exact HB.out.trans h2⟩
end Go.Proofs.YtkjiancdhaocaaaDoor
