/- Walks over the reference of chapter wave: pack; Pack of both. -/
import Derived.Test.YteodljaphkpimaaDoorWvBb
import Derived.Test.YteodljaphkpimaaDoorWvQd
namespace Go.Proofs.YteodljaphkpimaaDoor
open Go.RowKit Go.Shelf
set_option linter.unusedSimpArgs false
set_option linter.unusedVariables false
attribute [local go_sem] Oper.semAt_some

/-- the reference's bytes: k of them, behind the first i bits -/
def rpS (t : Tx) (i k : Nat) : List Int := ((t.length / 256 : Nat) : Int) :: ((t.length % 256 : Nat) : Int) :: (List.range k).map (pv t i)
theorem rpS_len (t : Tx) (i k : Nat) : (rpS t i k).length = 2 + k := by simp [rpS]; omega
theorem rpS_ix (t : Tx) (i : Nat) {j k : Nat} (hj : j < k) : ix (rpS t i k) (2 + j) = pv t i j := by
  unfold ix rpS
  rw [show 2 + j = j + 1 + 1 by omega]
  simp [hj]
theorem rpS_done (t : Tx) : rpS t t.length (nB t.length) = packL t := rfl
theorem rpS_app (t : Tx) {i : Nat} (h : i % 8 = 0) : rpS t i (nB i) ++ [0] = rpS t i (i / 8 + 1) := by
  have e : nB i = i / 8 := by unfold nB; omega
  rw [e]
  unfold rpS
  rw [List.range_succ, List.map_append, List.map_cons, List.map_nil, pv_fut t (i := i) (j := i / 8) (by omega)]
  rfl
theorem rpS_same (t : Tx) {i : Nat} (h : ¬ i % 8 = 0) : rpS t i (nB i) = rpS t i (i / 8 + 1) := by
  have e : nB i = i / 8 + 1 := by unfold nB; omega
  rw [e]
theorem nB_succ (i : Nat) : nB (i + 1) = i / 8 + 1 := by unfold nB; omega
theorem rpS_set (t : Tx) (i : Nat) : (rpS t i (i / 8 + 1)).set (2 + i / 8) (pv t i (i / 8) + bI t i * 2 ^ (7 - i % 8)) = rpS t (i + 1) (nB (i + 1)) := by
  rw [nB_succ]
  unfold rpS
  rw [show 2 + i / 8 = i / 8 + 1 + 1 by omega, List.set_cons_succ, List.set_cons_succ]
  congr 1
  congr 1
  refine List.ext_getElem (by simp) fun j h1 h2 => ?_
  rw [List.getElem_set]
  simp only [List.getElem_map, List.getElem_range, pv]
  split
  · rename_i h; subst h; simp
  · simp
theorem rpS_zero (t : Tx) {i : Nat} (h : bI t i = 0) : rpS t i (i / 8 + 1) = rpS t (i + 1) (nB (i + 1)) := by
  rw [nB_succ]
  unfold rpS
  congr 1
  congr 1
  refine List.map_congr_left fun j _ => ?_
  rw [pv, h]
  simp
theorem OwnY.two (w : World) (x y : Int) : OwnY (w.alloc (.cells #[.int .u8 x, .int .u8 y] 5)) w.heap.size 5 (.slice (some ⟨w.heap.size, 0, none⟩) 2 2) [x, y] :=
  ⟨rfl, .inr ⟨w.heap.size, 2, #[.int .u8 x, .int .u8 y], rfl, Nat.le_refl _, heap_alloc_new w _, Nat.le_refl _, by unfold maxLen; omega, rfl, rfl⟩⟩
theorem OwnY.stored {w : World} {B g c n : Nat} {l : List Int} (h : OwnY w B 5 (.slice (some ⟨g, 0, none⟩) n c) l) (hn : l.length = n) (k : Nat) (x : Int) :
    OwnY (w.setCell ⟨g, k, none⟩ (.int .u8 x)) B 5 (.slice (some ⟨g, 0, none⟩) n c) (l.set k x) := by
  subst hn
  have h' : w.ownsRow B 5 1 (.slice (some ⟨g, 0, none⟩) l.length c) l.length (l.map (Value.int .u8)) := h
  have := (h'.stored k (.int .u8 x)).1
  unfold OwnY
  rw [List.map_set, List.length_set]
  exact this
theorem OwnY.form1 {w : World} {B : Nat} {e : TypeId} {v : Value} {l : List Int} {n : Nat} (h : OwnY w B e v l) (hn : l.length = n) (h0 : 0 < n) :
    ∃ g c, v = .slice (some ⟨g, 0, none⟩) n c ∧ B ≤ g ∧ g < w.heap.size ∧ n ≤ c ∧ (∀ k, k < n → w.cell? ⟨g, k, none⟩ = some (.int .u8 (ix l k))) ∧ ∀ k, w.frozen? ⟨g, k, none⟩ = false := by
  subst hn
  rcases h.form with ⟨-, rfl⟩ | ⟨g, c, h1, h2, h3, h4, h5, h6, h7⟩
  · exact absurd h0 (Nat.lt_irrefl _)
  · exact ⟨g, c, h1, h2, h3, h4, h6, h7⟩
/-- bytes come back -/
def LisY (L : List Int) (w : World) (e : Ending) (w' : World) : Prop := Below w.heap.size w w' ∧ ∃ A c, e = .returned (.slice A L.length c) ∧ RdY w' w'.heap.size A L
def LisYE (L : List Int) (E : Int) (w : World) (e : Ending) (w' : World) : Prop := Below w.heap.size w w' ∧ ∃ A c, e = .returned (.tuple #[.slice A L.length c, .int .i64 E]) ∧ RdY w' w'.heap.size A L
theorem hf8 (R : Nat) (h : R < 8) : hf (8 - R) = 2 ^ (7 - R) ∧ 1 ≤ (2 : Int) ^ (7 - R) ∧ (2 : Int) ^ (7 - R) ≤ 128 := by
  have : R = 0 ∨ R = 1 ∨ R = 2 ∨ R = 3 ∨ R = 4 ∨ R = 5 ∨ R = 6 ∨ R = 7 := by omega
  rcases this with rfl | rfl | rfl | rfl | rfl | rfl | rfl | rfl <;> decide
set_option maxRecDepth 100000 in
set_option maxHeartbeats 4000000 in
theorem refpack_any (t : Tx) (w : World) (hb : bitsB t = true) (hl : t.length ≤ 1000) :
    Calls Tryd.prog 67 #[.string ⟨t.toArray⟩] w (LisY (packL t) w) := by
  have hget := get_bt t
  have hsz := size_bt t
  have HX : Hid (∀ w' A c, Below w.heap.size w w' → RdY w' w'.heap.size A (packL t) → LisY (packL t) w (.returned (.slice A (packL t).length c)) w') := Lib.hid fun w' A c hb hr => ⟨hb, A, c, rfl, hr⟩
  have HB := Lib.hid hb
  have HD := Lib.hid (rpS_done t)
  have H0 : Hid (rpS t 0 (nB 0) = [(t.length : Int) / 256, (t.length : Int) % 256]) := Lib.hid (by simp [rpS, nB])
  clear hb
  generalize LisY (packL t) w = Rr at *
  generalize hn : t.length = n at *
  have HN := Lib.hid hn
  clear hn
  have HO2 := Lib.hid (OwnY.two w ((n : Int) / 256) ((n : Int) % 256))
  have HB2 := Lib.hid (below_alloc w (.cells #[.int .u8 ((n : Int) / 256), .int .u8 ((n : Int) % 256)] 5))
  go_enter Tryd.func67, Tryd.ntmps67
  go_wp2
  go_loopg [3, 16] n (fun gk u3 u wr => ∃ i : Nat, u = .int .i64 i ∧ i ≤ n ∧ n - i ≤ gk ∧ OwnY wr w.heap.size 5 u3 (rpS t i (nB i)) ∧ Below w.heap.size w wr)
  case atStart => exact ⟨0, rfl, by omega, by omega, by rw [H0.out]; exact HO2.out, HB2.out⟩
  case round =>
    obtain ⟨i, rfl, hi, hgk, hO, hB⟩ := hrel
    by_cases hlt : i < n
    · have hin : (i : Int) < (n : Int) := by omega
      have hi0 : (0 : Int) ≤ (i : Int) := by omega
      have hR : (i : Int) % 8 = ((i % 8 : Nat) : Int) := by omega
      have hRt : (i : Int).tmod 8 = ((i % 8 : Nat) : Int) := by rw [Int.tmod_eq_emod_of_nonneg hi0]; exact hR
      have hRl : i % 8 < 8 := by omega
      obtain ⟨h81, h82, h83⟩ := hf8 (i % 8) hRl
      have HH := Lib.hid (fun W => refHalf_any (8 - i % 8) W (by omega))
      have hbt := bt_bits HB.out (i := i) (by rw [HN.out]; exact hlt)
      have HST := Lib.hid (rpS_set t i)
      have HZ := Lib.hid (fun (h : bt t i = 48) => rpS_zero t (i := i) (by unfold bI; rw [h]; rfl))
      have HI : Hid (bt t i = 49 → bI t i = 1) := Lib.hid (fun h => by unfold bI; rw [if_pos h])
      have HA := Lib.hid (fun h => rpS_app t (i := i) h)
      have HS := Lib.hid (fun h => rpS_same t (i := i) h)
      have HL := Lib.hid (rpS_len t i (i / 8 + 1))
      have HX2 := Lib.hid (rpS_ix t i (j := i / 8) (k := i / 8 + 1) (by omega))
      have hpb := pv_bd t i (i / 8)
      have hpb2 := pv_bd t (i + 1) (i / 8)
      rw [pv, if_pos rfl] at hpb2
      have HLN := Lib.hid (rpS_len t i (nB i))
      have hnB : nB i ≤ 200 := by unfold nB; omega
      rw [h81] at HH
      have HBB := Lib.hid hB
      have HII := Lib.hid (And.intro hlt hgk)
      have hbz : w.heap.size ≤ wr.heap.size := hB.size
      clear hB hR hgk
      have HLN2 := HLN.out
      generalize rpS t i (nB i) = L1 at *
      have hl1 : L1.length ≤ 300 := by rw [HLN2]; omega
      clear HLN HLN2 hnB
      generalize rpS t i (i / 8 + 1) = L2 at *
      generalize pv t i (i / 8) = x at *
      obtain ⟨L3, hL3⟩ : ∃ L3, L3 = rpS t (i + 1) (nB (i + 1)) := ⟨_, rfl⟩
      rw [← hL3] at HST HZ
      have HL3 := Lib.hid hL3
      clear hL3
      have hJ : i / 8 < 200 := by omega
      generalize i / 8 = J at *
      obtain ⟨p, hp⟩ : ∃ p, p = 2 + J := ⟨_, rfl⟩
      rw [← hp] at HST HX2
      have HL2 : Hid (L2.length = p + 1) := Lib.hid (by rw [HL.out, hp]; omega)
      have hp200 : p < 300 := by omega
      have HPP : Hid (((0 : Int) ≤ (p : Int) ∧ (p : Int) < (p : Int) + 1) ∧ IntKind.i64.wrap (p : Int) = (p : Int) ∧ wrap64 (p : Int) = (p : Int)) := Lib.hid ⟨⟨Int.natCast_nonneg p, by omega⟩, IntWalk.i64_in _ (by omega), IntWalk.wrap64_in _ (by omega)⟩
      clear HL hJ hp
      generalize (2 : Int) ^ (7 - i % 8) = h at *
      have e1 : IntKind.u8.wrap h = h := IntWalk.u8_in _ (by omega)
      by_cases hR0 : i % 8 = 0
      · rw [hR0] at hRt HH
        have HAA := Lib.hid (HA.out hR0)
        have HOO := Lib.hid hO
        clear hO HA HS hR0 hRl
        rcases hbt with hbt | hbt
        · have HE := HZ.out hbt
          clear HST HX2 HH HI HZ hpb hpb2 h82 h83 e1 HL2 hp200
          go_wp2_with (refine wp_app_byte 36 rfl (.tmp 22) (.tmp 23) rfl Tryd.underlying36 infoByte _ w.heap.size _ L1 0 rfl rfl HOO.out (by omega) hbz ?_; intro v6 w6 hO6 hB6 hsp; clear hsp; rw [HAA.out] at hO6; have hBF := HBB.out.trans hB6; clear hbz)
          go_roundg (n - (i + 1))
          case measure => have := HII.out; omega
          case rel => exact ⟨i + 1, by go_num, by have := HII.out; omega, by have := HII.out; omega, by rw [← HL3.out, ← HE]; exact hO6, hBF⟩
        · rw [HI.out hbt] at HST hpb2
          clear HI HZ
          rw [Int.one_mul] at HST hpb2
          have e5 : IntKind.u8.wrap (x + h) = x + h := IntWalk.u8_in _ hpb2
          go_wp2_with (refine wp_app_byte 36 rfl (.tmp 22) (.tmp 23) rfl Tryd.underlying36 infoByte _ w.heap.size _ L1 0 rfl rfl HOO.out (by omega) hbz ?_; intro v6 w6 hO6 hB6 hsp; clear hsp; rw [HAA.out] at hO6; have hBF := HBB.out.trans hB6; clear hbz; obtain ⟨g, c, rfl, hgB, hgl, hlc, hcell, hfr⟩ := hO6.form1 HL2.out (by omega); have hc := hcell p (by omega); rw [HX2.out] at hc; have hf := hfr p; have HOF := Lib.hid hO6; clear hO6 hcell hfr)
          obtain ⟨⟨hp0, hpp⟩, e8, e9⟩ := HPP.out
          refine wp_region_still_tail 13 (by kernel_rfl) (by kernel_rfl) ?_
          simp only [List.take_succ_cons, List.take_zero, List.drop_succ_cons, List.drop_zero]
          change wpStill _ _ (w6.drewN 1) (fun a' => wpList _ _ _ _ a' (w6.drewN 1)) _ _
          have hc1 : (w6.drewN 1).cell? ⟨g, p, none⟩ = some (.int .u8 x) := hc
          have hf1 : (w6.drewN 1).frozen? ⟨g, p, none⟩ = false := hf
          have HX1 := Lib.hid (And.intro (OwnY.kept HOF.out ((Below.refl _ _).drewsN 1)) (And.intro (hBF.drewsN 1) hgB))
          clear hc hf hB6 hBF
          generalize w6.drewN 1 = W1 at *
          iterate 13 (refine wpStill_step (fun K hK => ?_); go_simp; (first | refine hK _ ?_ | (refine ⟨_, HH.out _, hK _ ?_⟩) | (go_values; refine hK _ ?_) | (go_values; go_simp; refine hK _ ?_) | (go_ite <;> go_prune <;> (try go_simp); refine hK _ ?_)); clear hK K)
          refine wpStill_nil ?_
          have HSET := OwnY.stored (n := p + 1) HX1.out.1 HL2.out p (x + h)
          rw [HST.out, HL3.out] at HSET
          have HSE := Lib.hid HSET
          have HBE := Lib.hid (HX1.out.2.1.setCell (p := ⟨g, p, none⟩) HX1.out.2.2 (.int .u8 (x + h)))
          clear HSET
          go_wp2
          go_roundg (n - (i + 1))
          case measure => have := HII.out; omega
          case rel => exact ⟨i + 1, by go_num, by have := HII.out; omega, by have := HII.out; omega, HSE.out, HBE.out⟩
      · have hRe : ((i % 8 : Nat) : Int) ≠ 0 := by omega
        rw [HS.out hR0] at hO
        obtain ⟨g, c, rfl, hgB, hgl, hlc, hcell, hfr⟩ := hO.form1 HL2.out (by omega)
        have hc := hcell p (by omega)
        rw [HX2.out] at hc
        have hf := hfr p
        have HOO := Lib.hid hO
        clear hO HA HS hR0 hcell hfr
        generalize i % 8 = R at *
        rcases hbt with hbt | hbt
        · have HE := HZ.out hbt
          clear HST HX2 HH HI HZ hpb hpb2 h82 h83 e1 HL2 hp200
          go_wp2
          go_roundg (n - (i + 1))
          case measure => have := HII.out; omega
          case rel => exact ⟨i + 1, by go_num, by have := HII.out; omega, by have := HII.out; omega, by rw [← HL3.out, ← HE]; exact HOO.out, HBB.out⟩
        · rw [HI.out hbt] at HST hpb2
          clear HI HZ
          rw [Int.one_mul] at HST hpb2
          have e5 : IntKind.u8.wrap (x + h) = x + h := IntWalk.u8_in _ hpb2
          have e6 : IntKind.i64.wrap (8 - (R : Int)) = ((8 - R : Nat) : Int) := by rw [IntWalk.i64_in _ (by omega)]; omega
          have e7 : wrap64 (8 - (R : Int)) = ((8 - R : Nat) : Int) := by rw [IntWalk.wrap64_in _ (by omega)]; omega
          generalize 8 - R = S at *
          go_wp2
          have HOF := HOO
          obtain ⟨⟨hp0, hpp⟩, e8, e9⟩ := HPP.out
          refine wp_region_still_tail 13 (by kernel_rfl) (by kernel_rfl) ?_
          simp only [List.take_succ_cons, List.take_zero, List.drop_succ_cons, List.drop_zero]
          change wpStill _ _ (wr.drewN 1) (fun a' => wpList _ _ _ _ a' (wr.drewN 1)) _ _
          have hc1 : (wr.drewN 1).cell? ⟨g, p, none⟩ = some (.int .u8 x) := hc
          have hf1 : (wr.drewN 1).frozen? ⟨g, p, none⟩ = false := hf
          have HX1 := Lib.hid (And.intro (OwnY.kept HOF.out ((Below.refl _ _).drewsN 1)) (And.intro (HBB.out.drewsN 1) hgB))
          clear hc hf 
          generalize wr.drewN 1 = W1 at *
          iterate 13 (refine wpStill_step (fun K hK => ?_); go_simp; (first | refine hK _ ?_ | (refine ⟨_, HH.out _, hK _ ?_⟩) | (go_values; refine hK _ ?_) | (go_values; go_simp; refine hK _ ?_) | (go_ite <;> go_prune <;> (try go_simp); refine hK _ ?_)); clear hK K)
          refine wpStill_nil ?_
          have HSET := OwnY.stored (n := p + 1) HX1.out.1 HL2.out p (x + h)
          rw [HST.out, HL3.out] at HSET
          have HSE := Lib.hid HSET
          have HBE := Lib.hid (HX1.out.2.1.setCell (p := ⟨g, p, none⟩) HX1.out.2.2 (.int .u8 (x + h)))
          clear HSET
          go_wp2
          go_roundg (n - (i + 1))
          case measure => have := HII.out; omega
          case rel => exact ⟨i + 1, by go_num, by have := HII.out; omega, by have := HII.out; omega, HSE.out, HBE.out⟩
    · obtain rfl : i = n := by omega
      rw [HD.out] at hO
      obtain ⟨A1, c1, rfl, hr1⟩ := hO.rd
      have HB := Lib.hid hB
      have HR1 := Lib.hid hr1
      clear hB hO hr1
      go_wp2
      exact HX.out _ _ _ HB.out HR1.out

def paE (t : Tx) : Int := if vbB t = true then 0 else 31
def paL (t : Tx) : List Int := if vbB t = true then packL t else []
theorem packL_len (t : Tx) : (packL t).length = 2 + nB t.length := pkS_len t _
theorem LisYE.none {w w' : World} {E : Int} (hb : Below w.heap.size w w') : LisYE [] E w (.returned (.tuple #[.slice Option.none 0 0, .int .i64 E])) w' := ⟨hb, Option.none, 0, rfl, .inl rfl⟩
set_option maxHeartbeats 2000000 in
theorem Pack_any (t : Tx) (w : World) (h : t.length ≤ 1000000) : Calls Tryd.prog 29 #[.string ⟨t.toArray⟩] w (LisYE (paL t) (paE t) w) := by
  have HV := Lib.hid (fun W => ValidBits_any t W h)
  unfold paL paE
  cases hv : vbB t
  · have HK : Hid (∀ w', Below w.heap.size w w' → LisYE (if false = true then packL t else []) (if false = true then 0 else 31) w (.returned (.tuple #[.slice none 0 0, .int .i64 31])) w') := Lib.hid fun w' hb => LisYE.none hb
    rw [hv] at HV
    clear hv
    generalize LisYE _ _ w = R at *
    go_enter Tryd.func29, Tryd.ntmps29
    go_wp2_with (go_at_call 22; refine (HV.out _).mono ?_; rintro e w1 ⟨rfl, h1⟩)
    exact HK.out _ h1
  · have HP := Lib.hid (fun W => pack_any t W (vbB_iff.1 hv).2 (vbB_iff.1 hv).1)
    have HK : Hid (∀ w1 w2 : World, Below w.heap.size w w1 → Below w1.heap.size w1 w2 → BoxY w2 w1.heap.size (packL t) → LisYE (if true = true then packL t else []) (if true = true then 0 else 31) w (.returned (.tuple #[.slice (some ⟨w1.heap.size, 0, Option.none⟩) (2 + nB t.length) (2 + nB t.length), .int .i64 0])) w2) :=
      Lib.hid fun w1 w2 h1 h2 hb => ⟨h1.trs h2, some ⟨w1.heap.size, 0, Option.none⟩, 2 + nB t.length, by simp [packL_len], by simpa using hb.rd⟩
    rw [hv] at HV
    clear hv
    generalize LisYE _ _ w = R at *
    generalize 2 + nB t.length = m at *
    generalize packL t = l at *
    go_enter Tryd.func29, Tryd.ntmps29
    go_wp2_with (first
      | (go_at_call 22; refine (HV.out _).mono ?_; rintro e w1 ⟨rfl, h1⟩)
      | (go_at_call 65; refine (HP.out _).mono ?_; rintro e w2 ⟨rfl, hb2, h2⟩; replace hb2 := Lib.hid hb2))
    exact HK.out _ _ h1 h2 hb2.out
set_option maxHeartbeats 2000000 in
theorem refPack_any (t : Tx) (w : World) (h : t.length ≤ 1000000) : Calls Tryd.prog 32 #[.string ⟨t.toArray⟩] w (LisYE (paL t) (paE t) w) := by
  have HV := Lib.hid (fun W => refValidBits_any t W h)
  unfold paL paE
  cases hv : vbB t
  · have HK : Hid (∀ w', Below w.heap.size w w' → LisYE (if false = true then packL t else []) (if false = true then 0 else 31) w (.returned (.tuple #[.slice none 0 0, .int .i64 31])) w') := Lib.hid fun w' hb => LisYE.none hb
    rw [hv] at HV
    clear hv
    generalize LisYE _ _ w = R at *
    go_enter Tryd.func32, Tryd.ntmps32
    go_wp2_with (go_at_call 23; refine (HV.out _).mono ?_; rintro e w1 ⟨rfl, rfl⟩)
    exact HK.out _ (Below.refl _ _)
  · have HP := Lib.hid (fun W => refpack_any t W (vbB_iff.1 hv).2 (vbB_iff.1 hv).1)
    unfold LisY at HP
    have HK : Hid (∀ (w1 w2 : World) (A : Option Addr) (c : Nat), Below w.heap.size w w1 → Below w1.heap.size w1 w2 → RdY w2 w2.heap.size A (packL t) → LisYE (if true = true then packL t else []) (if true = true then 0 else 31) w (.returned (.tuple #[.slice A (packL t).length c, .int .i64 0])) w2) :=
      Lib.hid fun w1 w2 A c h1 h2 hb => ⟨h1.trs h2, A, c, by simp, by simpa using hb⟩
    rw [hv] at HV
    clear hv
    generalize LisYE _ _ w = R at *
    generalize packL t = l at *
    generalize l.length = m at *
    go_enter Tryd.func32, Tryd.ntmps32
    go_wp2_with (first
      | (go_at_call 23; refine (HV.out _).mono ?_; rintro e w1 ⟨rfl, rfl⟩)
      | (go_at_call 67; refine (HP.out _).mono ?_; rintro e w2 ⟨h2, A2, c2, rfl, hb2⟩; replace hb2 := Lib.hid hb2))
    exact HK.out _ _ _ _ (Below.refl _ _) h2 hb2.out
end Go.Proofs.YteodljaphkpimaaDoor
