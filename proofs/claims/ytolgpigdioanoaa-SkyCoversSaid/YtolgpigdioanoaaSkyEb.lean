/- Walks over package sky: Coarse. -/
import Derived.Test.YtolgpigdioanoaaSkyEa
namespace Go.Proofs.Ytolgpigdioanoaa
open Go.RowKit
set_option linter.unusedSimpArgs false
set_option linter.unusedVariables false

/-- the pixels of the cells of an order that have some -/
def coarP (U : Px) (h : Nat) : Px := fun x => decide (0 < cntP U (x / 4 ^ h * 4 ^ h) (4 ^ h))
def halfC (U : Px) (h n : Nat) : Px := fun x => decide (x / 4 ^ h < n) && coarP U h x
theorem halfC_zero (U : Px) (h : Nat) : halfC U h 0 = fun _ => false := by funext x; simp [halfC]
theorem okP_natc {k : Int} {n : Nat} (hk : btw 0 k 4 = true) (hn : (n : Int) < px k) : okP k n = true := by
  unfold okP; rw [hk, btw_iff.2 ⟨by omega, by omega⟩]; rfl
theorem px_four {k : Int} (hk : btw 0 k 4 = true) : (px k).toNat * 4 ^ (4 - k).toNat = 3072 := by
  rcases ord_cases hk with rfl | rfl | rfl | rfl | rfl <;> decide
theorem halfC_all (U : Px) {k : Int} (hk : btw 0 k 4 = true) : ∀ x, x < 3072 → halfC U (4 - k).toNat (px k).toNat x = coarP U (4 - k).toNat x := fun x hx => by
  have h1 := px_four hk
  have : x / 4 ^ (4 - k).toNat < (px k).toNat := by rw [Nat.div_lt_iff_lt_mul (four_pos _), h1]; exact hx
  simp [halfC, this]
theorem inC_nat {k : Int} (hk : btw 0 k 4 = true) (n x : Nat) : inC (k, (n : Int)) x = decide (x / 4 ^ (4 - k).toNat = n) := by
  rw [btw_iff] at hk
  have := inC_mk (4 - k).toNat n x
  rw [show (4 : Int) - ((4 - k).toNat : Int) = k by omega] at this
  exact this
theorem cntC_nat (U : Px) (k : Int) (n : Nat) : cntC U k n = cntP U (n * 4 ^ (4 - k).toNat) (4 ^ (4 - k).toNat) := by unfold cntC; rw [Int.toNat_natCast]
theorem halfC_put {U : Px} {k : Int} {n : Nat} (hk : btw 0 k 4 = true) (h : 0 < cntC U k n) : (fun x => halfC U (4 - k).toNat n x || inC (k, (n : Int)) x) = halfC U (4 - k).toNat (n + 1) := by
  funext x
  rw [inC_nat hk]
  rw [cntC_nat] at h
  generalize (4 - k).toNat = hh at *
  unfold halfC coarP
  rcases Nat.lt_trichotomy (x / 4 ^ hh) n with h1 | h1 | h1
  · have e1 : x / 4 ^ hh < n + 1 := by omega
    have e2 : ¬ x / 4 ^ hh = n := by omega
    simp [h1, e1, e2]
  · rw [h1]; simp [h]
  · have e1 : ¬ x / 4 ^ hh < n + 1 := by omega
    have e2 : ¬ x / 4 ^ hh = n := by omega
    have e3 : ¬ x / 4 ^ hh < n := by omega
    simp [e1, e2, e3]
theorem halfC_skip {U : Px} {k : Int} {n : Nat} (h : ¬ 0 < cntC U k n) : halfC U (4 - k).toNat n = halfC U (4 - k).toNat (n + 1) := by
  funext x
  rw [cntC_nat] at h
  generalize (4 - k).toNat = hh at *
  unfold halfC coarP
  rcases Nat.lt_trichotomy (x / 4 ^ hh) n with h1 | h1 | h1
  · have e1 : x / 4 ^ hh < n + 1 := by omega
    simp [h1, e1]
  · rw [h1]; simp [h]
  · have e1 : ¬ x / 4 ^ hh < n + 1 := by omega
    have e3 : ¬ x / 4 ^ hh < n := by omega
    simp [e1, e3]
def coarE (l : List (Int × Int)) (k : Int) : Int := if vldC l then (if btw 0 k 4 then toldE (coarP (uniP l) (4 - k).toNat) else 2) else 60
def coarL (l : List (Int × Int)) (k : Int) : List (Int × Int) := if vldC l && btw 0 k 4 then toldL (coarP (uniP l) (4 - k).toNat) else []
set_option maxRecDepth 100000 in
set_option maxHeartbeats 4000000 in
theorem Coarse_any (A : Option Addr) (c : Nat) (l : List (Int × Int)) (k : Int) (w : World) (hr : RdP w w.heap.size A l) (hl : l.length ≤ 1000000) :
    Calls Try.prog 43 #[.slice A l.length c, .int .i64 k] w (LstQ (coarL l k) (coarE l k) w) := by
  have HG := Lib.hid (regions_one A c l _ hr hl)
  have HSZ := Lib.hid rgA_size
  have HN1 : Hid (vldC l = false → ∀ W, Below w.heap.size w W → LstQ (coarL l k) (coarE l k) w (.returned (.tuple #[.slice none 0 0, .int .i64 60])) W) := Lib.hid (fun h W hW => by
    unfold coarL coarE; rw [h]; exact LstQ.no_ hW)
  have HN2 : Hid (vldC l = true → btw 0 k 4 = false → ∀ W, Below w.heap.size w W → LstQ (coarL l k) (coarE l k) w (.returned (.tuple #[.slice none 0 0, .int .i64 2])) W) := Lib.hid (fun h h2 W hW => by
    unfold coarL coarE; rw [h, h2]; exact LstQ.no_ hW)
  have HY : Hid (vldC l = true → btw 0 k 4 = true → coarL l k = toldL (coarP (uniP l) (4 - k).toNat) ∧ coarE l k = toldE (coarP (uniP l) (4 - k).toNat)) := Lib.hid (fun h h2 => by
    unfold coarL coarE; rw [h, h2]; exact ⟨rfl, rfl⟩)
  generalize coarL l k = RL at *
  generalize coarE l k = RE at *
  clear hr hl
  cases hk : btw 0 k 4
  · have HO := Lib.hid (fun W => open_no k W hk)
    have HN3 := Lib.hid (fun h => HN2.out h hk)
    clear HY HN2 hk
    generalize l.length = n at *
    generalize rgA (uniP l) = RA at *
    generalize vldC l = vl at *
    go_enter Try.func43, Try.ntmps43
    go_wp2_with (first
      | (go_at_call 101; refine HG.out.mono ?_; rintro e w1 ⟨h1, ⟨hvl, rfl⟩ | ⟨hvl, b, c1, rfl, hb, hrg⟩⟩)
      | (go_at_call 76; refine (HO.out _).mono ?_; rintro e w2 ⟨rfl, h2⟩))
    · go_ret2
      exact HN1.out hvl _ h1
    · go_ret2
      exact HN3.out hvl _ ((h1.trs h2).trs (below_alloc _ _))
  · have HO := Lib.hid (fun W => open_ok k W hk)
    have HPX := Lib.hid (fun W => pixels_s k (sd k) W (sd_cases hk))
    rw [show 12 * sd k * sd k = px k from rfl] at HPX
    have HFC := Lib.hid (fun (n : Nat) (hn : (n : Int) < px k) W => full_cell (uniP l) k n W (okP_natc hk hn))
    have HPC := Lib.hid (fun S g (n : Nat) W (hn : (n : Int) < px k) hb => put_cell S g k n W (okP_natc hk hn) hb)
    have HT := Lib.hid (fun W => told_any (coarP (uniP l) (4 - k).toNat) W)
    have HHA := Lib.hid (halfC_all (uniP l) hk)
    have HHZ := Lib.hid (halfC_zero (uniP l) (4 - k).toNat)
    have HHP := Lib.hid (fun n (h : 0 < cntC (uniP l) k ((n : Nat) : Int)) => halfC_put (U := uniP l) (n := n) hk h)
    have HHS := Lib.hid (fun n (h : ¬ 0 < cntC (uniP l) k ((n : Nat) : Int)) => halfC_skip (U := uniP l) (k := k) (n := n) h)
    have HY2 := Lib.hid (fun h => HY.out h hk)
    have hpx := px_le hk
    have hpn : ((px k).toNat : Int) = px k := by omega
    have HCB : Hid (∀ n : Nat, cntC (uniP l) k (n : Int) ≤ 3072) := Lib.hid (fun n => by
      have h1 := cntP_le (uniP l) ((n : Int).toNat * 4 ^ (4 - k).toNat) (4 ^ (4 - k).toNat)
      unfold cntC
      have h2 := px_four hk
      have h3 : 1 ≤ (px k).toNat := by omega
      have h4 := Nat.le_mul_of_pos_left (4 ^ (4 - k).toNat) h3
      omega)
    clear HY HN2 hk
    unfold LstQ rgV at HT
    unfold rgV at HFC
    generalize toldL (coarP (uniP l) (4 - k).toNat) = TL at *
    generalize toldE (coarP (uniP l) (4 - k).toNat) = TE at *
    generalize coarP (uniP l) (4 - k).toNat = CP at *
    obtain ⟨HC, hHC⟩ : ∃ HC, HC = halfC (uniP l) (4 - k).toNat := ⟨_, rfl⟩
    rw [← hHC] at HHA HHZ HHP HHS
    clear hHC
    generalize sd k = s at *
    generalize px k = N at *
    generalize hNN : N.toNat = NN at *
    clear hNN
    subst hpn
    generalize l.length = n at *
    generalize uniP l = U at *
    generalize vldC l = vl at *
    go_enter Try.func43, Try.ntmps43
    go_upto_region 8 with (first
      | (go_at_call 101; refine HG.out.mono ?_; rintro e w1 ⟨h1, ⟨hvl, rfl⟩ | ⟨hvl, b, c1, rfl, hb, hrg⟩⟩)
      | (go_at_call 76; refine (HO.out _).mono ?_; rintro e w2 ⟨rfl, h2⟩))
    · go_ret2
      exact HN1.out hvl _ h1
    · obtain ⟨eL, eE⟩ := HY2.out hvl
      rw [rgA_none]
      have hz2 := Box.new w2 68 #[.int .i64 k, .int .i64 s]
      have hb3 := (h1.trs h2).trs (below_alloc w2 (.cells #[.int .i64 k, .int .i64 s] 68))
      have hrg3 := range_below (h2.trs (below_alloc w2 (.cells #[.int .i64 k, .int .i64 s] 68))) hb hrg
      generalize hw3 : w2.alloc (.cells #[.int .i64 k, .int .i64 s] 68) = w3 at *
      have hgs : w2.heap.size < w3.heap.size := hz2.lt
      have hb2 : b < w2.heap.size := Nat.lt_of_lt_of_le hb h2.size
      have hg1 : w3.heap.size = w2.heap.size + 1 := by rw [← hw3, World.size_alloc]
      clear hw3
      have HX := Lib.hid (And.intro (BoxR.new w3 (fun _ => false)) (And.intro (hz2.alloc (.cells (rgA fun _ => false) 98)) (And.intro (hb3.trs (below_alloc w3 (.cells (rgA fun _ => false) 98))) (And.intro hb3.size hrg3))))
      have HGW := Lib.hid (below_alloc w3 (.cells (rgA fun _ => false) 98))
      have HB3 := Lib.hid hb3
      clear hz2 hb3 h1 h2 hrg hrg3
      generalize hW4 : w3.alloc (.cells (rgA fun _ => false) 98) = W4 at *
      clear hW4
      have HRB := Lib.hid (fun W (hW : Below w3.heap.size w3 W) => range_below hW (by omega : b < w3.heap.size) HX.out.2.2.2.2)
      generalize w3.heap.size = g at *
      generalize w2.heap.size = gs at *
      subst hg1
      have k0 := HX.out.2.1.cell 0
      have k1 := HX.out.2.1.cell 1
      simp at k0 k1
      go_wp2_with (go_at_call 77; refine (HPX.out _).mono ?_; rintro e w5 ⟨rfl, h5⟩)
      have HGS := Lib.hid hgs
      go_loopg [31] NN (fun gk t wr => ∃ j : Nat, t = .int .i64 j ∧ j ≤ NN ∧ NN - j ≤ gk ∧ BoxR wr (gs + 1) (HC j) ∧ Below (gs + 1) w3 wr)
      case atStart => exact ⟨0, rfl, by omega, by omega, by rw [HHZ.out]; exact HX.out.1.on h5, HGW.out.trans (h5.mono (Nat.le_of_lt HX.out.1.lt))⟩
      case round =>
        obtain ⟨j, rfl, hj, hgk, hX, hB⟩ := hrel
        by_cases hlt : j < NN
        · have hltI : (j : Int) < (NN : Int) := by omega
          have HFn := Lib.hid (HFC.out j hltI)
          have HPn := Lib.hid (fun S g' W hb' => HPC.out S g' j W hltI hb')
          have HHPj := Lib.hid (HHP.out j)
          have HHSj := Lib.hid (HHS.out j)
          have HCBj := Lib.hid (HCB.out j)
          have HL := Lib.hid (And.intro hlt hgk)
          have hzc := Box.new wr 60 #[.int .i64 k, .int .i64 j]
          have hbc := below_alloc wr (.cells #[.int .i64 k, .int .i64 j] 60)
          have hxc := hX.on hbc
          have hgw : gs + 1 < wr.heap.size := hX.lt
          have hBc := hB.trans (hbc.mono (Nat.le_of_lt hgw))
          clear hX hB hbc
          go_upto_region 12 with (fail)
          generalize hwc : wr.alloc (.cells #[.int .i64 k, .int .i64 j] 60) = wc at *
          clear hwc
          generalize wr.heap.size = gc at *
          have k0' : (wc.drewN 1).cell? ⟨gc, 0, none⟩ = some (.int .i64 k) := hzc.cell 0
          have k1' : (wc.drewN 1).cell? ⟨gc, 1, none⟩ = some (.int .i64 j) := hzc.cell 1
          have HRG : Hid ((wc.drewN 1).rangeAt b 0 (rgA U).toList) := Lib.hid (HRB.out (wc.drewN 1) (hBc.drewsN 1))
          have hBd : Below wc.heap.size wc (wc.drewN 1) := (Below.refl _ _).drewsN 1
          have HXD := Lib.hid (And.intro (hxc.on hBd) (And.intro (hzc.on hBd) (And.intro (hBc.drewsN 1) hgw)))
          refine wp_region_still_tail 4 (by kernel_rfl) (by kernel_rfl) ?_
          simp only [List.take_succ_cons, List.take_zero, List.drop_succ_cons, List.drop_zero]
          change wpStill _ _ (wc.drewN 1) (fun a' => wpList _ _ _ _ a' (wc.drewN 1)) _ _
          clear hzc hxc hBc hgw hBd
          generalize wc.drewN 1 = wd at *
          repeat (first | (refine wpStill_load_reg rfl (.tmp 38) rfl b 0 rfl U HRG.out ?_) | (refine wpStill_step (fun K hK => ?_); go_simp; (first | refine hK _ ?_ | (go_values; refine hK _ ?_) | (go_values; go_simp; refine hK _ ?_) | (go_ite <;> go_prune <;> (try go_simp); refine hK _ ?_)); clear hK K))
          refine wpStill_nil ?_
          unfold rgV at *
          generalize hcj : cntC U k (j : Int) = cj at *
          clear hcj k0' k1'
          by_cases hpos : 0 < cj
          · have hposI : (0 : Int) < (cj : Int) := by omega
            have hcb := HCBj.out
            go_wp2_with (first
              | (go_at_call 102; refine (HFn.out _).mono ?_; rintro e w6 ⟨rfl, h6⟩; have kz := HXD.out.2.1.on h6; have k0 := kz.cell 0; have k1 := kz.cell 1; simp at k0 k1; have hx6 := Lib.hid (HXD.out.1.on h6); clear kz)
              | (go_at_call 97; refine (HPn.out _ _ _ hx6.out).mono ?_; rintro e w7 ⟨rfl, h7, hx7⟩))
            go_roundg (NN - (j + 1))
            case measure => have := HL.out; omega
            case rel => exact ⟨j + 1, by go_num, by have := HL.out; omega, by have := HL.out; omega, by rw [← HHPj.out hpos]; exact hx7, (HXD.out.2.2.1.trans (h6.mono (Nat.le_of_lt HXD.out.1.lt))).trans h7⟩
          · have hposI : ¬ (0 : Int) < (cj : Int) := by omega
            have hcb := HCBj.out
            go_wp2_with (first
              | (go_at_call 102; refine (HFn.out _).mono ?_; rintro e w6 ⟨rfl, h6⟩; have kz := HXD.out.2.1.on h6; have k0 := kz.cell 0; have k1 := kz.cell 1; simp at k0 k1; have hx6 := Lib.hid (HXD.out.1.on h6); clear kz))
            go_roundg (NN - (j + 1))
            case measure => have := HL.out; omega
            case rel => exact ⟨j + 1, by go_num, by have := HL.out; omega, by have := HL.out; omega, by rw [← HHSj.out hpos]; exact hx6.out, (HXD.out.2.2.1.trans (h6.mono (Nat.le_of_lt HXD.out.1.lt)))⟩
        · obtain rfl : j = NN := by omega
          have HX1 := Lib.hid (hX.congr HHA.out)
          have HB1 := Lib.hid (HX.out.2.2.1)
          have HB2 := Lib.hid hB
          have hltI : ¬ (j : Int) < (j : Int) := by omega
          clear hX hB
          go_wp2_with (first
            | (refine wpList_load_row rfl 98 (.tmp 10) rfl (gs + 1) rfl 98 _ (0, 0) _ HX1.out Try.underlying98 rfl (by rw [infoReg, HSZ.out]) ?_)
            | (go_at_call 98; refine (HT.out _).mono ?_; rintro e w9 ⟨h9, A9, c9, rfl, hr9⟩))
          go_ret2
          refine ⟨(HB3.out.trans (HB2.out.mono HX.out.2.2.2.1)).trs h9, A9, c9, ?_, ?_⟩
          · rw [eL, eE]; first | done | rfl
          · rw [eL]; exact hr9
end Go.Proofs.Ytolgpigdioanoaa
