/- The walk of the law AlertKept. -/
import Derived.Test.YtdafiblnanpiiaaAlY
import Derived.Test.YtdafiblnanpiiaaAlertStretchesW
import Derived.OpenShut
namespace Go.Proofs.Ytdafiblnanpiiaa
open Go.RowKit
set_option linter.unusedSimpArgs false
set_option linter.unusedVariables false

/-! ### what is kept, in order -/
theorem kepI_mem (L : List (Int × Int × Int)) (n : Nat) (x : Nat) : (x : Int) ∈ kepI L n ↔ x < n ∧ 0 ≤ slk (kepT L x ++ [tx L x]) := by
  induction n with
  | zero => simp [kepI]
  | succ n ih =>
    rw [kepI_succ]
    by_cases e : x = n
    · subst e
      have hn : ¬ (x : Int) ∈ kepI L x := fun h => by have := (kepI_bd L x _ h).2; omega
      split
      · rename_i h; simp [h]
      · rename_i h; simp [h, hn]
    · have h1 : x < n + 1 ↔ x < n := by omega
      rw [h1]
      split
      · rw [List.mem_append, ih, List.mem_singleton]
        constructor
        · rintro (h | h)
          · exact h
          · exact absurd (by omega : x = n) e
        · exact .inl
      · exact ih
theorem kepI_filter (L : List (Int × Int × Int)) (x n : Nat) (hx : x ≤ n) : (kepI L n).filter (fun k => decide (k < (x : Int))) = kepI L x := by
  induction n with
  | zero =>
    have : x = 0 := by omega
    subst this; simp [kepI]
  | succ n ih =>
    by_cases e : x = n + 1
    · subst e
      rw [List.filter_eq_self]
      intro k hk
      have := (kepI_bd L (n + 1) k hk).2
      rw [decide_eq_true_eq]; omega
    · have h2 := ih (by omega)
      rw [kepI_succ]
      split
      · rw [List.filter_append, h2, List.filter_cons_of_neg (by rw [decide_eq_true_eq]; omega), List.filter_nil, List.append_nil]
      · exact h2
theorem kepI_up (L : List (Int × Int × Int)) (n : Nat) : (kepI L n).Pairwise (· < ·) := by
  induction n with
  | zero => exact List.Pairwise.nil
  | succ n ih =>
    rw [kepI_succ]
    split
    · rw [List.pairwise_append]
      refine ⟨ih, List.pairwise_singleton _ _, fun a ha b hb => ?_⟩
      rw [List.mem_singleton] at hb
      have := (kepI_bd L n a ha).2
      omega
    · exact ih
theorem kepI_ix (L : List (Int × Int × Int)) (n j : Nat) (hj : j < (kepI L n).length) : 0 ≤ ix (kepI L n) j ∧ ix (kepI L n) j < n := by
  refine kepI_bd L n _ ?_
  rw [show ix (kepI L n) j = (kepI L n)[j] by simp [ix, hj]]
  exact List.getElem_mem _
theorem kepI_lt (L : List (Int × Int × Int)) (n j : Nat) (hj : j + 1 < (kepI L n).length) : ix (kepI L n) j < ix (kepI L n) (j + 1) := by
  have := List.pairwise_iff_getElem.1 (kepI_up L n) j (j + 1) (by omega) hj (by omega)
  rw [show ix (kepI L n) j = (kepI L n)[j] by simp [ix, show j < (kepI L n).length by omega], show ix (kepI L n) (j + 1) = (kepI L n)[j + 1] by simp [ix, hj]]
  exact this
/-- what the law gathers of the first ones -/
def gK (L : List (Int × Int × Int)) (K : List Int) (j : Nat) : List (Int × Int × Int) := (K.take j).map fun k => tx L k.toNat
def gS (L : List (Int × Int × Int)) (K : List Int) (x : Int) (j : Nat) : List (Int × Int × Int) := ((K.take j).filter fun k => decide (k < x)).map fun k => tx L k.toNat
def gI (K : List Int) (x : Int) (j : Nat) : Bool := (K.take j).any fun k => decide (k = x)
theorem gK_succ {L : List (Int × Int × Int)} {K : List Int} {j : Nat} (hj : j < K.length) : gK L K (j + 1) = gK L K j ++ [tx L (ix K j).toNat] := by
  unfold gK; rw [take_succ_ix hj, List.map_append]; rfl
theorem gS_succ {L : List (Int × Int × Int)} {K : List Int} {x : Int} {j : Nat} (hj : j < K.length) : gS L K x (j + 1) = if ix K j < x then gS L K x j ++ [tx L (ix K j).toNat] else gS L K x j := by
  unfold gS; rw [take_succ_ix hj, List.filter_append]
  split
  · rename_i h; rw [List.filter_cons_of_pos (by simpa using h), List.map_append]; rfl
  · rename_i h; rw [List.filter_cons_of_neg (by simpa using h), List.filter_nil, List.append_nil]
theorem gI_succ {K : List Int} {x : Int} {j : Nat} (hj : j < K.length) : gI K x (j + 1) = (gI K x j || decide (ix K j = x)) := by
  unfold gI; rw [take_succ_ix hj, List.any_append]; simp
theorem gK_len (L : List (Int × Int × Int)) (K : List Int) (j : Nat) : (gK L K j).length ≤ K.length := by unfold gK; rw [List.length_map]; exact (List.length_take_le' j K)
theorem gS_len (L : List (Int × Int × Int)) (K : List Int) (x : Int) (j : Nat) : (gS L K x j).length ≤ K.length := by
  unfold gS; rw [List.length_map]
  exact Nat.le_trans (List.length_filter_le _ _) (List.length_take_le' j K)

theorem Can_row (B : Nat) (v : Value) (l : List (Int × Int × Int)) (w : World) (ho : OwnT w B 36 v l) (hl : l.length ≤ 1125899906842624) :
    Calls Try.prog 24 #[v] w fun e w' => e = .returned (CanV l) ∧ Below w.heap.size w w' := by
  obtain ⟨A, c, rfl, hr⟩ := ho.rd
  exact Can_any A c l w hr hl

set_option maxRecDepth 100000 in
set_option maxHeartbeats 8000000 in
theorem AlertKept_walk (w : World) (A : Option Addr) (c : Nat) (L : List (Int × Int × Int)) (hr : RdT w w.heap.size A L) (_hm : L.length ≤ maxLen) (y : Int) (hy : (Lit.int .u8 y).wf = true) :
    Calls Try.prog 4 #[.slice A L.length c, .int .u8 y] w fun e w' => e = .returned (.bool true) ∧ Below w.heap.size w w' := by
  have HR := Lib.hid hr; clear hr
  have HY := Lib.hid hy
  by_cases hl : L.length ≤ 40
  · have hd : decide ((40 : Int) < L.length) = false := by simp; omega
    have hl2 : L.length ≤ 1125899906842624 := by omega
    have HV := Lib.hid (refValid_any A c L w HR.out hl2)
    cases hv : vldT L <;> rw [hv] at HV
    · clear hy HY
      go_enter Try.func4, Try.ntmps4
      go_wp2_with (first
        | (go_at_call 14; refine (Long_any _ _ _ _).mono ?_; rintro e w' ⟨rfl, rfl⟩)
        | (go_at_call 22; refine HV.out.mono ?_; rintro e w1 ⟨rfl, h1⟩)
        | (go_at_call 15; refine (Sane_any _).mono ?_; rintro e w10 ⟨rfl, h10⟩))
      go_ret
      exact ⟨rfl, h1.trs h10⟩
    · have hok := okT_of hv
      have HKp := Lib.hid (fun W (hW : Below w.heap.size w W) => Kept_any A c L W (HR.out.on hW) hl2)
      rw [hv, if_pos rfl, SlackE_yes hv] at HKp
      unfold OutI at HKp
      have hn1 := hok.1.1
      have hn12 := hok.1.2
      have hkl := kepI_len L L.length
      have HKI := Lib.hid (kepI_ix L L.length)
      have HKL := Lib.hid (kepI_lt L L.length)
      have hby := bounds_u8 hy
      have hw8 : wrap64 y = y := IntWalk.wrap64_in _ (by omega)
      obtain ⟨x, hx, hxn⟩ : ∃ x : Nat, (wrap64 y).tmod (L.length : Int) = x ∧ x < L.length := by
        have h0 : 0 ≤ y.tmod (L.length : Int) := Int.tmod_nonneg _ (by omega)
        have h1 : y.tmod (L.length : Int) < L.length := Int.tmod_lt_of_pos _ (by omega)
        exact ⟨(y.tmod (L.length : Int)).toNat, by rw [hw8]; omega, by omega⟩
      have hq0 : ((L.length : Int) == 0) = false := by rw [beq_eq_false_iff_ne]; omega
      clear hw8 hby
      have HMO := Lib.hid (kepM_ok L hok x hxn)
      have HCV : Hid (CanV (kepT L x ++ [tx L x]) = .tuple #[.bool (gI (kepI L L.length) x (kepI L L.length).length), .int .i64 0]) := Lib.hid (by
        rw [CanV_yes (vldT_of HMO.out)]
        have e : decide (0 ≤ slk (kepT L x ++ [tx L x])) = gI (kepI L L.length) x (kepI L L.length).length := by
          rw [Bool.eq_iff_iff, decide_eq_true_eq]
          unfold gI
          rw [List.take_length, List.any_eq_true]
          constructor
          · exact fun h => ⟨x, (kepI_mem L L.length x).2 ⟨hxn, h⟩, by simp⟩
          · rintro ⟨k, h1, h2⟩
            have : k = (x : Int) := by simpa using h2
            subst this
            exact ((kepI_mem L L.length x).1 h1).2
        rw [e])
      have HGS : Hid (gS L (kepI L L.length) x (kepI L L.length).length = kepT L x) := Lib.hid (by
        unfold gS kepT; rw [List.take_length, kepI_filter L x L.length (by omega)])
      have HGK : Hid (gK L (kepI L L.length) (kepI L L.length).length ≠ [] → CanV (gK L (kepI L L.length) (kepI L L.length).length) = .tuple #[.bool true, .int .i64 0]) := Lib.hid (fun hne => by
        have e : gK L (kepI L L.length) (kepI L L.length).length = kepT L L.length := by unfold gK kepT; rw [List.take_length]
        rw [e] at hne ⊢
        have hs := kepT_sub L L.length (Nat.le_refl _)
        rw [List.take_length] at hs
        rw [CanV_yes (vldT_of (okT_sub hs hok (List.length_pos_iff.2 hne))), decide_eq_true (kepT_slk L _)])
      have HKS := Lib.hid (fun j (hj : j < (kepI L L.length).length) => gK_succ (L := L) hj)
      have HSS := Lib.hid (fun j (hj : j < (kepI L L.length).length) => gS_succ (L := L) (x := (x : Int)) hj)
      have HIS := Lib.hid (fun j (hj : j < (kepI L L.length).length) => gI_succ (x := (x : Int)) hj)
      have HKN := Lib.hid (gK_len L (kepI L L.length))
      have HSN := Lib.hid (gS_len L (kepI L L.length) x)
      have HTX : Hid (∀ k, tx L k = (ta L k, tb L k, tc L k)) := Lib.hid (fun _ => rfl)
      have HKL0 : Hid (gK L (kepI L L.length) 0 = [] ∧ gS L (kepI L L.length) x 0 = [] ∧ gI (kepI L L.length) x 0 = false) := Lib.hid ⟨rfl, rfl, rfl⟩
      have hXK : Hid (∀ j, j < (kepI L L.length).length → (gK L (kepI L L.length) (j + 1)).length = (gK L (kepI L L.length) j).length + 1) := Lib.hid (fun j hj => by rw [gK_succ hj]; simp)
      have HKE : Hid (∀ j, j ≤ (kepI L L.length).length → (gK L (kepI L L.length) j).length = j) := Lib.hid (fun j hj => by unfold gK; rw [List.length_map, List.length_take]; omega)
      clear hy HY
      generalize hKe : kepI L L.length = K at *
      generalize hn : L.length = n at *
      go_enter Try.func4, Try.ntmps4
      go_wp2_with (first
        | (go_at_call 14; refine (Long_any _ _ _ _).mono ?_; rintro e w' ⟨rfl, rfl⟩)
        | (go_at_call 22; refine HV.out.mono ?_; rintro e w1 ⟨rfl, h1⟩)
        | (go_at_call 23; refine (HKp.out _ h1).mono ?_; rintro e w2 ⟨h2, AK, cK, rfl, hRK⟩; have h2 := h1.trs h2))
      have HRK := Lib.hid hRK; clear hRK
      have HB2 := Lib.hid h2
      generalize hm : K.length = m at *
      have HM := Lib.hid hm; clear hm
      go_loopg [8, 9, 10, 11] m (fun k v8 v9 s t wr => ∃ j : Nat, t = .int .i64 j ∧ j ≤ m ∧ m - j ≤ k ∧ s = .bool (gI K x j) ∧ Below w2.heap.size w2 wr ∧ OwnT wr w2.heap.size 36 v8 (gK L K j) ∧ OwnT wr w2.heap.size 36 v9 (gS L K x j) ∧ Aside (Apart2 v8 v9))
      case atStart => exact ⟨0, rfl, by omega, by omega, by rw [HKL0.out.2.2], Below.refl _ _, by rw [HKL0.out.1]; exact OwnT.nil _ _ _, by rw [HKL0.out.2.1]; exact OwnT.nil _ _ _, (Apart2.nil_left _ : Apart2 _ _)⟩
      case round =>
        obtain ⟨j, ht, hj, hk, rfl, hB, hO8, hO9, HA⟩ := hrel
        obtain ⟨JJ, hJJ⟩ : ∃ JJ : Int, JJ = (j : Int) := ⟨_, rfl⟩
        rw [← hJJ] at ht
        subst ht
        have hJ0 : 0 ≤ JJ := by omega
        have hJn : JJ.toNat = j := by omega
        by_cases hlt : j < m
        · obtain ⟨bk, ok, rfl, hbk, d0⟩ := HRK.out.at_ (k := j) (by rw [HM.out]; exact hlt)
          obtain ⟨q1, q2⟩ := HKI.out j (by omega)
          obtain ⟨kj, hkj⟩ : ∃ kj : Nat, ix K j = kj := ⟨(ix K j).toNat, by omega⟩
          have hkn : kj < n := by omega
          have HKSj := Lib.hid (HKS.out j hlt)
          have HSSj := Lib.hid (HSS.out j hlt)
          have HISj := Lib.hid (HIS.out j hlt)
          rw [hkj] at d0 HKSj HSSj HISj
          rw [Int.toNat_natCast, HTX.out] at HKSj HSSj
          have hprev : decide (0 < JJ) = false ∨ ∃ (j' : Nat) (JP p : Int), (decide (0 < JJ) = true ∧ JJ - 1 = JP ∧ JP.toNat = j' ∧ 0 ≤ JP ∧ JP < (m : Int)) ∧ wr.cell? ⟨bk, ok + j', none⟩ = some (.int .i64 p) ∧ p < kj := by
            rcases j with _ | j'
            · exact .inl (by rw [hJJ]; decide)
            · obtain ⟨bk', ok', he, hbk', d1⟩ := HRK.out.at_ (k := j') (by rw [HM.out]; omega)
              injection he with he; injection he with e1 e2; subst e1; subst e2
              rw [← hB.cell hbk'] at d1
              have := HKL.out j' (by omega)
              exact .inr ⟨j', (j' : Int), _, ⟨by rw [decide_eq_true_eq]; omega, by omega, by omega, by omega, by omega⟩, d1, by omega⟩
          obtain ⟨bb, o, rfl, hbb, cc1, cc2, cc3⟩ := HR.out.at_ (k := kj) (by rw [hn]; exact hkn)
          have HCE := Lib.hid (fun W (hW : Below w2.heap.size w2 W) => (show W.cell? ⟨bk, ok + j, none⟩ = some (.int .i64 kj) ∧ W.cell? ⟨bb, o + kj * 3, none⟩ = some (.int .i64 (ta L kj)) ∧ W.cell? ⟨bb, o + kj * 3 + 1, none⟩ = some (.int .i64 (tb L kj)) ∧ W.cell? ⟨bb, o + kj * 3 + 2, none⟩ = some (.int .i64 (tc L kj)) from
            ⟨(hW.cell (p := ⟨bk, ok + j, none⟩) hbk).trans d0, ((HB2.out.trs hW).cell (p := ⟨bb, o + kj * 3, none⟩) hbb).trans cc1, ((HB2.out.trs hW).cell (p := ⟨bb, o + kj * 3 + 1, none⟩) hbb).trans cc2, ((HB2.out.trs hW).cell (p := ⟨bb, o + kj * 3 + 2, none⟩) hbb).trans cc3⟩))
          obtain ⟨e0, e1, e2, e3⟩ := HCE.out wr hB
          have hkn8 := HKN.out j
          have hsn8 := HSN.out j
          have HO8 := Lib.hid hO8
          have HO9 := Lib.hid hO9
          have HBB := Lib.hid hB
          clear hO8 hO9 d0 cc1 cc2 cc3 q1 q2 hkj
          generalize ta L kj = X at *
          generalize tb L kj = Y at *
          generalize tc L kj = Z at *
          have hjm : JJ < (m : Int) := by omega
          obtain ⟨KJ, hKJ⟩ : ∃ KJ : Int, KJ = (kj : Int) := ⟨_, rfl⟩
          rw [← hKJ] at e0 hprev
          have hk0 : 0 ≤ KJ := by omega
          have hkn2 : KJ < (n : Int) := by omega
          have hKn : KJ.toNat = kj := by omega
          have hng : decide (KJ < 0) = false := by rw [decide_eq_false_iff_not]; omega
          have hng2 : decide ((n : Int) ≤ KJ) = false := by rw [decide_eq_false_iff_not]; omega
          have hgI : Hid (gI K x (j + 1) = (gI K x j || (KJ == (x : Int)))) := Lib.hid (by rw [HISj.out, hKJ]; rfl)
          have hgS : Hid ((KJ < x → gS L K x (j + 1) = gS L K x j ++ [(X, Y, Z)]) ∧ (¬ KJ < x → gS L K x (j + 1) = gS L K x j)) := Lib.hid ⟨fun h => by rw [HSSj.out, if_pos (by omega)], fun h => by rw [HSSj.out, if_neg (by omega)]⟩
          clear HISj HSSj
          have HCE2 : Hid (∀ W, Below w2.heap.size w2 W → W.cell? ⟨bk, ok + j, none⟩ = some (.int .i64 KJ) ∧ W.cell? ⟨bb, o + kj * 3, none⟩ = some (.int .i64 X) ∧ W.cell? ⟨bb, o + kj * 3 + 1, none⟩ = some (.int .i64 Y) ∧ W.cell? ⟨bb, o + kj * 3 + 2, none⟩ = some (.int .i64 Z)) := Lib.hid (by rw [hKJ]; exact HCE.out)
          clear HCE
          have HJJ := Lib.hid hJJ
          clear hJJ hKJ
          generalize gI K x j = gi at *
          rcases hprev with hz | ⟨j', JP, p, ⟨hz, hz1, hz2, hz3, hz4⟩, d1, hp⟩
          all_goals
            by_cases hlx : KJ < (x : Int)
            · have hlx2 : decide (KJ < (x : Int)) = true := by rw [decide_eq_true_eq]; exact hlx
              cases gi
              all_goals
                go_wp2
                go_quiet (fail)
                go_wp2_with (first | (refine wp_app_trip 22 36 rfl (.tmp 72) (.tmp 80) rfl Try.underlying22 infoTask _ w2.heap.size _ _ (gK L K j) X Y Z rfl rfl ((HO8.out.kept ((Below.refl _ _).drewsN _)).kept (below_alloc _ _)) (Box.new _ _ _) (by omega) (by have := HBB.out.size; simp; omega) ?_; intro v8 w8 hO8 hB8 hS8 hF8; have HT8 := Lib.hid ((HBB.out.trs (((Below.refl _ _).drewsN _).trs (below_alloc _ _))).trans hB8); obtain ⟨f0, f1, f2, f3⟩ := HCE2.out _ HT8.out; have HN9 := Lib.hid (((HO9.out.kept ((Below.refl _ _).drewsN _)).kept (below_alloc _ _)).spared hS8 HA.out); have HAp := Lib.hid (HA.out.fresh hF8 (fun g hg => by have := (HO9.out.block_lt g hg).2; simp; omega)); have HN8 := Lib.hid hO8; clear hS8 hF8 hB8 hO8) | (refine wp_app_trip 22 36 rfl (.tmp 88) (.tmp 96) rfl Try.underlying22 infoTask _ w2.heap.size _ _ (gS L K x j) X Y Z rfl rfl (HN9.out.kept (below_alloc _ _)) (Box.new _ _ _) (by omega) (by have := HT8.out.size; simp; omega) ?_; intro v9 w9 hO9 hB9 hS9 hF9; have HT9 := Lib.hid ((HT8.out.trs (below_alloc _ _)).trans hB9); obtain ⟨g0, g1, g2, g3⟩ := HCE2.out _ HT9.out; have HM8 := Lib.hid ((HN8.out.kept (below_alloc _ _)).spared hS9 HAp.out.symm); have HAq := Lib.hid ((HAp.out.symm.fresh hF9 (fun g hg => by have := (HN8.out.block_lt g hg).2; simp; omega)).symm); have HM9 := Lib.hid hO9; clear hS9 hF9 hB9 hO9))
                go_roundg (m - (j + 1))
                case measure => omega
                case rel => exact ⟨j + 1, by rw [HJJ.out]; go_num, by omega, by omega, by rw [hgI.out]; first | done | rfl, HT9.out, by rw [HKSj.out]; exact HM8.out, by rw [hgS.out.1 hlx]; exact HM9.out, HAq.out⟩
            · have hlx2 : decide (KJ < (x : Int)) = false := by rw [decide_eq_false_iff_not]; exact hlx
              cases gi
              all_goals
                go_wp2
                go_quiet (fail)
                go_wp2_with (first | (refine wp_app_trip 22 36 rfl (.tmp 72) (.tmp 80) rfl Try.underlying22 infoTask _ w2.heap.size _ _ (gK L K j) X Y Z rfl rfl ((HO8.out.kept ((Below.refl _ _).drewsN _)).kept (below_alloc _ _)) (Box.new _ _ _) (by omega) (by have := HBB.out.size; simp; omega) ?_; intro v8 w8 hO8 hB8 hS8 hF8; have HT8 := Lib.hid ((HBB.out.trs (((Below.refl _ _).drewsN _).trs (below_alloc _ _))).trans hB8); obtain ⟨f0, f1, f2, f3⟩ := HCE2.out _ HT8.out; have HN9 := Lib.hid (((HO9.out.kept ((Below.refl _ _).drewsN _)).kept (below_alloc _ _)).spared hS8 HA.out); have HAp := Lib.hid (HA.out.fresh hF8 (fun g hg => by have := (HO9.out.block_lt g hg).2; simp; omega)); have HN8 := Lib.hid hO8; clear hS8 hF8 hB8 hO8))
                go_roundg (m - (j + 1))
                case measure => omega
                case rel => exact ⟨j + 1, by rw [HJJ.out]; go_num, by omega, by omega, by rw [hgI.out]; first | done | rfl, HT8.out, by rw [HKSj.out]; exact HN8.out, by rw [hgS.out.2 hlx]; exact HN9.out, HAp.out⟩
        · obtain rfl : j = m := by omega
          obtain ⟨bb, o, rfl, hbb, cc1, cc2, cc3⟩ := HR.out.at_ (k := x) (by rw [hn]; exact hxn)
          have hBw := HB2.out.trs hB
          rw [← hBw.cell hbb] at cc1 cc2 cc3
          rw [HGS.out] at hO9
          have hxl : (kepT L x).length ≤ 12 := by have := HSN.out j; rw [HGS.out] at this; omega
          rw [HTX.out] at HCV HMO
          have hgl := HKE.out j (by omega)
          have HC2 := Lib.hid (fun v W (h : OwnT W w2.heap.size 36 v (kepT L x ++ [(ta L x, tb L x, tc L x)])) => Can_row _ v _ W h (by simp; omega))
          rw [HCV.out] at HC2
          have HTC := Lib.hid (fun W (hW : Below wr.heap.size wr W) => (show W.cell? ⟨bb, o + x * 3, none⟩ = some (.int .i64 (ta L x)) ∧ W.cell? ⟨bb, o + x * 3 + 1, none⟩ = some (.int .i64 (tb L x)) ∧ W.cell? ⟨bb, o + x * 3 + 2, none⟩ = some (.int .i64 (tc L x)) from
            ⟨(hW.cell (p := ⟨bb, o + x * 3, none⟩) (World.block_lt_of_cell? _ _ cc1)).trans cc1, (hW.cell (p := ⟨bb, o + x * 3 + 1, none⟩) (World.block_lt_of_cell? _ _ cc2)).trans cc2, (hW.cell (p := ⟨bb, o + x * 3 + 2, none⟩) (World.block_lt_of_cell? _ _ cc3)).trans cc3⟩))
          have HSZ : w2.heap.size ≤ wr.heap.size := hB.size
          have HO9 := Lib.hid hO9
          have HBQ := Lib.hid hB
          clear hO9 HCV HMO HGS HKS HSS HIS HKN HSN HKI HKL
          rcases Nat.eq_zero_or_pos j with hj0 | hj0
          · obtain ⟨A8, c8, rfl, r8⟩ := hO8.rd
            clear hO8 r8 HGK
            rw [hgl]
            have hjz : (j : Int) = 0 := by omega
            generalize ta L x = X at *
            generalize tb L x = Y at *
            generalize tc L x = Z at *
            generalize gI K x j = gi at *
            go_wp2_with (first
              | (refine wp_app_trip 22 36 rfl (.tmp 122) (.tmp 127) rfl Try.underlying22 infoTask _ w2.heap.size _ _ (kepT L x) X Y Z rfl rfl (HO9.out.kept (below_alloc _ _)) (Box.new _ _ _) (by omega) (by simp; omega) ?_; intro v12 w12 hO12 hB12 _ _; have HV12 := Lib.hid hO12; have HT12 := Lib.hid ((HBQ.out.trs (below_alloc wr _)).trans hB12); clear hO12)
              | (have := v12; go_at_call 24; refine (HC2.out _ _ HV12.out).mono ?_; rintro e w5 ⟨rfl, h5⟩)
              | (go_at_call 15; refine (Sane_any _).mono ?_; rintro e w10 ⟨rfl, h10⟩))
            go_ret
            exact ⟨ret_bool (by simp), ((HB2.out.trs HT12.out).trs h5).trs h10⟩
          · have hne : gK L K j ≠ [] := fun e => by rw [e] at hgl; simp at hgl; omega
            have HC8 := Lib.hid (Can_row _ _ _ wr hO8 (by omega))
            rw [HGK.out hne] at HC8
            obtain ⟨A8, c8, rfl, r8⟩ := hO8.rd
            clear hO8 r8 HGK
            rw [hgl] at HC8 ⊢
            have hjz : (0 : Int) < (j : Int) := by omega
            generalize ta L x = X at *
            generalize tb L x = Y at *
            generalize tc L x = Z at *
            generalize gI K x j = gi at *
            go_wp2_with (first
              | (refine wp_app_trip 22 36 rfl (.tmp 122) (.tmp 127) rfl Try.underlying22 infoTask _ w2.heap.size _ _ (kepT L x) X Y Z rfl rfl ((HO9.out.kept h4).kept (below_alloc _ _)) (Box.new _ _ _) (by omega) (by have := h4.size; simp; omega) ?_; intro v12 w12 hO12 hB12 _ _; have HV12 := Lib.hid hO12; have HT12 := Lib.hid (((HBQ.out.trs h4).trs (below_alloc w4 _)).trans hB12); clear hO12)
              | (have := v12; go_at_call 24; refine (HC2.out _ _ HV12.out).mono ?_; rintro e w5 ⟨rfl, h5⟩)
              | (go_at_call 24; refine HC8.out.mono ?_; rintro e w4 ⟨rfl, h4⟩; obtain ⟨f1, f2, f3⟩ := HTC.out _ h4)
              | (go_at_call 15; refine (Sane_any _).mono ?_; rintro e w10 ⟨rfl, h10⟩))
            go_ret
            exact ⟨ret_bool (by simp), ((HB2.out.trs HT12.out).trs h5).trs h10⟩
  · have hd : decide ((40 : Int) < L.length) = true := by simp; omega
    go_enter Try.func4, Try.ntmps4
    go_wp2_with (first
      | (go_at_call 14; refine (Long_any _ _ _ _).mono ?_; rintro e w' ⟨rfl, rfl⟩)
      | (go_at_call 15; refine (Sane_any _).mono ?_; rintro e w10 ⟨rfl, h10⟩))
    go_ret
    exact ⟨rfl, h10⟩
end Go.Proofs.Ytdafiblnanpiiaa
