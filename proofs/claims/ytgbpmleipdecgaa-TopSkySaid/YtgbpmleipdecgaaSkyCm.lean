/- Walks over package sky: two sets taken together. -/
import Derived.Test.YtgbpmleipdecgaaSkyCl
namespace Go.Proofs.Ytgbpmleipdecgaa
open Go.RowKit
set_option linter.unusedSimpArgs false
set_option linter.unusedVariables false

/-- what stays while a cell of a block is written -/
theorem keepG0 {F : World → Value} {b g p q r : Nat} {x y : Value} (hF : ∀ W : World, (W.cell? ⟨g, r, none⟩).isSome = true → W.cell? ⟨g, r, none⟩ = some (F W)) {W : World}
    (h1 : W.cell? ⟨b, p, none⟩ = some x) (h2 : W.cell? ⟨b, q, none⟩ = some y) (i1 : (W.cell? ⟨g, r, none⟩).isSome = true) (f1 : W.frozen? ⟨g, r, none⟩ = false) :
    W.cell? ⟨b, p, none⟩ = some x ∧ W.cell? ⟨b, q, none⟩ = some y ∧ W.cell? ⟨g, r, none⟩ = some (F W) ∧ W.frozen? ⟨g, r, none⟩ = false := ⟨h1, h2, hF W i1, f1⟩
theorem keepG1 {F : World → Value} {b g p q r : Nat} {x y : Value} (hF : ∀ W : World, (W.cell? ⟨g, r, none⟩).isSome = true → W.cell? ⟨g, r, none⟩ = some (F W)) (hg : g ≠ b) {W : World}
    (h : W.cell? ⟨b, p, none⟩ = some x ∧ W.cell? ⟨b, q, none⟩ = some y ∧ W.cell? ⟨g, r, none⟩ = some (F W) ∧ W.frozen? ⟨g, r, none⟩ = false) (v : Value) :
    (W.setCell ⟨g, r, none⟩ v).cell? ⟨b, p, none⟩ = some x ∧ (W.setCell ⟨g, r, none⟩ v).cell? ⟨b, q, none⟩ = some y ∧ (W.setCell ⟨g, r, none⟩ v).cell? ⟨g, r, none⟩ = some (F (W.setCell ⟨g, r, none⟩ v)) ∧ (W.setCell ⟨g, r, none⟩ v).frozen? ⟨g, r, none⟩ = false := by
  obtain ⟨h1, h2, h3, f1⟩ := h
  have far : ∀ o, (W.setCell ⟨g, r, none⟩ v).cell? ⟨b, o, none⟩ = W.cell? ⟨b, o, none⟩ := fun o => World.cell?_setCell_other _ _ _ _ (by intro e; injection e with e1; exact hg e1)
  refine ⟨(far p).trans h1, (far q).trans h2, hF _ ?_, ?_⟩
  · rw [World.cell?_setCell_same _ _ _ h3]; rfl
  · simpa using f1
/-- the first i words are taken together -/
def mixW (R : Px) (i : Nat) : Px := fun x => decide (x < 64 * i) && R x
theorem mixW_zero (R : Px) : mixW R 0 = fun _ => false := by funext x; simp [mixW]
theorem mixW_all (R : Px) : ∀ x, x < 3072 → mixW R 48 x = R x := fun x hx => by simp [mixW]; omega
theorem mixW_succ (R : Px) (i : Nat) (hi : i < 48) : (wds (mixW R i)).set i (wd R i : Int) = wds (mixW R (i + 1)) := by
  refine List.ext_getElem (by simp [wds]) fun k h1 h2 => ?_
  rw [List.getElem_set]
  split
  · next h =>
    subst h
    simp only [wds, List.getElem_map, List.getElem_range]
    rw [wd_ext (S := R) (T := mixW R (i + 1)) fun j hj => ?_]
    unfold mixW
    have : decide (64 * i + j < 64 * (i + 1)) = true := by rw [decide_eq_true_eq]; omega
    rw [this, Bool.true_and]
  · next h =>
    simp only [wds, List.getElem_map, List.getElem_range]
    rw [wd_ext (S := mixW R i) (T := mixW R (i + 1)) fun j hj => ?_]
    unfold mixW
    have : decide (64 * k + j < 64 * i) = decide (64 * k + j < 64 * (i + 1)) := by rw [decide_eq_decide]; omega
    rw [this]
theorem BoxR.word {w : World} {g : Nat} {R : Px} {i : Nat} (h : BoxR w g (mixW R i)) (hi : i < 48) : BoxR (w.setCell ⟨g, i, none⟩ (.int .u64 (wd R i : Int))) g (mixW R (i + 1)) := by
  have := Box.set_ h i (.int .u64 (wd R i : Int))
  unfold BoxR rgA
  rw [← mixW_succ R i hi, List.map_set]
  simpa [rgA] using this
def mixE (l m : List (Int × Int)) (R : Px) : Int := if vldC l && vldC m then toldE R else 60
def mixL (l m : List (Int × Int)) (R : Px) : List (Int × Int) := if vldC l && vldC m then toldL R else []
set_option maxRecDepth 100000 in
set_option maxHeartbeats 4000000 in
theorem mixed_any (gf : Nat) (R : Px) (A : Option Addr) (c : Nat) (l : List (Int × Int)) (A2 : Option Addr) (c2 : Nat) (m : List (Int × Int)) (w : World) (hr : RdP w w.heap.size A l) (hl : l.length ≤ 1000000) (hr2 : RdP w w.heap.size A2 m) (hl2 : m.length ≤ 1000000)
    (eg : ∀ args w, (callFunc gf args).run Try.prog w = .ok (.enter gf args) w)
    (hop : ∀ (W : World) (i : Nat), i < 48 → Calls Try.prog gf #[.int .u64 (wd (uniP l) i : Int), .int .u64 (wd (uniP m) i : Int)] W fun e w' => e = .returned (.int .u64 (wd R i : Int)) ∧ W = w') :
    Calls Try.prog 47 #[.slice A l.length c, .slice A2 m.length c2, .func (.func gf) #[] #[]] w (LstQ (mixL l m R) (mixE l m R) w) := by
  have hb1 := below_alloc w (.cells #[.slice A l.length c, .slice A2 m.length c2] 22)
  have hx1 := Box.new w 22 #[.slice A l.length c, .slice A2 m.length c2]
  have hrl : RdLC (w.alloc (.cells #[.slice A l.length c, .slice A2 m.length c2] 22)) (w.alloc (.cells #[.slice A l.length c, .slice A2 m.length c2] 22)).heap.size (some ⟨w.heap.size, 0, none⟩) [l, m] := by
    refine .inr ⟨w.heap.size, 0, rfl, by simp, fun k hk => ?_⟩
    have hk2 : k = 0 ∨ k = 1 := by simp at hk; omega
    rcases hk2 with rfl | rfl
    · exact ⟨A, c, hx1.cell 0, hr.on hb1⟩
    · exact ⟨A2, c2, hx1.cell 1, hr2.on hb1⟩
  have HG := Lib.hid (regions_any (some ⟨w.heap.size, 0, none⟩) 2 [l, m] _ hrl (by simp) (fun x hx => by simp at hx; rcases hx with rfl | rfl; exact hl; exact hl2))
  unfold RegQ at HG
  have HB1 := Lib.hid hb1
  have HOP := Lib.hid hop
  have HT := Lib.hid (fun W => told_any R W)
  have HN : Hid ((∃ x ∈ [l, m], vldC x = false) → ∀ W, Below w.heap.size w W → LstQ (mixL l m R) (mixE l m R) w (.returned (.tuple #[.slice none 0 0, .int .i64 60])) W) := Lib.hid (fun h W hW => by
    have : (vldC l && vldC m) = false := by
      obtain ⟨x, hx, e⟩ := h
      simp at hx
      rcases hx with rfl | rfl
      · rw [e]; rfl
      · rw [e, Bool.and_false]
    unfold mixL mixE
    rw [this]
    exact LstQ.no_ hW)
  have HY : Hid ((∀ x ∈ [l, m], vldC x = true) → mixL l m R = toldL R ∧ mixE l m R = toldE R) := Lib.hid (fun h => by
    have : (vldC l && vldC m) = true := by rw [h l (by simp), h m (by simp)]; rfl
    unfold mixL mixE
    rw [this]
    exact ⟨rfl, rfl⟩)
  have HMA := Lib.hid (mixW_all R)
  have HMZ := Lib.hid (mixW_zero R)
  generalize mixL l m R = ML at *
  generalize mixE l m R = ME at *
  have HSZ := Lib.hid rgA_size
  clear hrl hr hr2 hx1 hb1 hop hl hl2
  generalize l.length = nl at *
  generalize m.length = nm at *
  go_enter Try.func47, Try.ntmps47
  go_wp2_with (go_at_call 44; refine HG.out.mono ?_; rintro e w1 ⟨h1, ⟨hno, rfl⟩ | ⟨hyes, A5, c5, rfl, hrd⟩⟩)
  · go_ret2
    exact HN.out hno _ (HB1.out.trs h1)
  · obtain ⟨eL, eE⟩ := HY.out hyes
    rcases hrd with h0 | ⟨b, rfl, hb, hcells⟩
    · simp at h0
    have HB2 := Lib.hid (HB1.out.trs h1)
    have hw0 := hcells 0
    have hw1 := hcells 1
    simp only [List.map_cons, List.map_nil, List.length_cons, List.length_nil, Nat.zero_mul, Nat.one_mul, Nat.zero_add] at hw0 hw1
    have HW0 : Hid (∀ i, i < 48 → w1.cell? ⟨b, i, none⟩ = some (.int .u64 (wd (uniP l) i : Int))) := Lib.hid (fun i hi => hw0 i (by omega) hi)
    have HW1 : Hid (∀ i, i < 48 → w1.cell? ⟨b, 48 + i, none⟩ = some (.int .u64 (wd (uniP m) i : Int))) := Lib.hid (fun i hi => hw1 i (by omega) hi)
    have HTR := Lib.hid (fun wr (h : Below w1.heap.size w1 wr) => HB2.out.trs h)
    rw [rgA_none]
    have hx := BoxR.new w1 (fun _ => false)
    have HX := Lib.hid (And.intro hx (below_alloc w1 (.cells (rgA fun _ => false) 81)))
    clear hcells hw0 hw1 hx HN HY hyes h1
    generalize hW0 : w1.alloc (.cells (rgA fun _ => false) 81) = W0 at *
    clear hW0
    generalize hg : w1.heap.size = g at *
    clear hg
    have hgb : g ≠ b := by omega
    go_loopg [22] 48 (fun gk t wr => ∃ i : Nat, t = .int .i64 i ∧ i ≤ 48 ∧ 48 - i ≤ gk ∧ Below g w1 wr ∧ BoxR wr g (mixW R i))
    case atStart => exact ⟨0, rfl, by omega, by omega, HX.out.2, by rw [HMZ.out]; exact HX.out.1⟩
    case round =>
      obtain ⟨i, rfl, hi, hgk, hB, hX⟩ := hrel
      by_cases hlt : i < 48
      · have hltI : (i : Int) < 48 := by omega
        have q0 := HW0.out i hlt
        have q1 := HW1.out i hlt
        rw [← hB.cell (p := ⟨b, i, none⟩) hb] at q0
        rw [← hB.cell (p := ⟨b, 48 + i, none⟩) hb] at q1
        have i1 : (wr.cell? ⟨g, i, none⟩).isSome = true := by rw [hX.cell hlt]; rfl
        have f1 := hX.frozen i
        have HOPi := Lib.hid (fun W => HOP.out W i hlt)
        have HWD := Lib.hid (hX.word hlt)
        have HBX := Lib.hid (And.intro hB hX)
        have HL := Lib.hid (And.intro hlt hgk)
        obtain ⟨F, hF⟩ : ∃ F : World → Value, ∀ W : World, (W.cell? ⟨g, i, none⟩).isSome = true → W.cell? ⟨g, i, none⟩ = some (F W) := ⟨fun W => (W.cell? ⟨g, i, none⟩).getD undef, fun W h => by
          obtain ⟨v, hv⟩ := Option.isSome_iff_exists.1 h
          simp [hv]⟩
        have HF := Lib.hid hF
        clear hF hB hX hgk
        have hwx := wd_lt (uniP l) i
        have hwy := wd_lt (uniP m) i
        generalize wd (uniP l) i = x at *
        generalize wd (uniP m) i = y at *
        generalize hz : wd R i = z at *
        go_wp2
        have HOPj : ∀ W : World, Calls Try.prog gf #[.int .u64 (x : Int), .int .u64 (y : Int)] W fun e w' => e = .returned (.int .u64 (z : Int)) ∧ w' = W := fun W => (HOPi.out W).mono (fun e w' h => ⟨h.1, h.2.symm⟩)
        have HOPk := Lib.hid HOPj
        clear HOPj
        have q0' : (wr.drewN 1).cell? ⟨b, i, none⟩ = some (.int .u64 (x : Int)) := q0
        have q1' : (wr.drewN 1).cell? ⟨b, 48 + i, none⟩ = some (.int .u64 (y : Int)) := q1
        have i1' : (wr.drewN 1).cell? ⟨g, i, none⟩ = some (F wr) := HF.out wr i1
        have f1' : (wr.drewN 1).frozen? ⟨g, i, none⟩ = false := f1
        have HWD' : Hid (BoxR ((wr.drewN 1).setCell ⟨g, i, none⟩ (.int .u64 (z : Int))) g (mixW R (i + 1))) := Lib.hid HWD.out
        have HB9 := Lib.hid (HBX.out.1.drewsN 1)
        clear q0 q1 f1
        refine wp_region_still_tail 14 (by kernel_rfl) (by kernel_rfl) ?_
        simp only [List.take_succ_cons, List.take_zero, List.drop_succ_cons, List.drop_zero]
        change wpStill _ _ (wr.drewN 1) (fun a' => wpList _ _ _ _ a' (wr.drewN 1)) _ _
        generalize hW2 : wr.drewN 1 = W2 at *
        repeat (refine wpStill_step (fun K hK => ?_); go_simp; (first | refine hK _ ?_ | (refine ⟨_, HOPk.out _, hK _ ?_⟩) | (go_values; refine hK _ ?_) | (go_values; go_simp; refine hK _ ?_) | (go_ite <;> go_prune <;> (try go_simp); refine hK _ ?_)); clear hK K)
        refine wpStill_nil ?_
        go_wp2
        go_roundg (48 - (i + 1))
        case measure => have := HL.out; omega
        case rel => exact ⟨i + 1, by go_num, by have := HL.out; omega, by have := HL.out; omega, HB9.out.setCell (p := ⟨g, i, none⟩) (by simp) _, HWD'.out⟩
      · obtain rfl : i = 48 := by omega
        have HX1 := Lib.hid (hX.congr HMA.out)
        have HBX := Lib.hid (HTR.out _ hB)
        clear hX hB
        unfold rgV LstQ at HT
        go_wp2_with (first
          | (refine wpList_load_row rfl 81 (.tmp 10) rfl g rfl 81 _ (0, 0) _ HX1.out Try.underlying81 rfl (by rw [infoReg, HSZ.out]) ?_)
          | (go_at_call 43; refine (HT.out _).mono ?_; rintro e w9 ⟨h9, A9, c9, rfl, hr9⟩))
        go_ret2
        refine ⟨HBX.out.trs h9, A9, c9, ?_, ?_⟩
        · rw [eL, eE]; first | done | rfl
        · rw [eL]; exact hr9

/-! ### the functions of words -/
theorem nat_andNot (a b : Nat) (ha : a < 18446744073709551616) (hb : b < 18446744073709551616) : bits .andNot .u64 (a : Int) (b : Int) = ((a &&& (18446744073709551615 - b) : Nat) : Int) := by
  show IntKind.u64.wrap ((BitVec.ofInt 64 (a : Int) &&& ~~~BitVec.ofInt 64 (b : Int)).toNat : Int) = _
  rw [BitVec.toNat_and, BitVec.toNat_not]
  have e1 : (BitVec.ofInt 64 (a : Int)).toNat = a := by simp; omega
  have e2 : (BitVec.ofInt 64 (b : Int)).toNat = b := by simp; omega
  rw [e1, e2]
  refine wraps_u64 _ (by omega) ?_
  have := Nat.and_le_left (n := a) (m := 2 ^ 64 - 1 - b)
  omega
theorem wd_without (S T : Px) (i : Nat) : wd S i &&& (18446744073709551615 - wd T i) = wd (fun x => S x && !(T x)) i := by
  refine Nat.eq_of_testBit_eq fun j => ?_
  have h := wd_lt T i
  rw [Nat.testBit_and, wd_bit, wd_bit]
  by_cases hj : j < 64
  · have : (18446744073709551615 - wd T i).testBit j = !((wd T i).testBit j) := by
      have h2 := Nat.testBit_two_pow_sub_succ (n := 64) (x := wd T i) (by omega) j
      rw [show 2 ^ 64 - (wd T i + 1) = 18446744073709551615 - wd T i by omega] at h2
      rw [h2]; simp [hj]
    rw [this, wd_bit]
    simp [hj]
  · simp [hj]
theorem join1_any (S T : Px) (i : Nat) (w : World) : Calls Try.prog 48 #[.int .u64 (wd S i : Int), .int .u64 (wd T i : Int)] w fun e w' => e = .returned (.int .u64 (wd (fun x => S x || T x) i : Int)) ∧ w = w' := by
  have h := nat_or _ _ (wd_lt S i) (wd_lt T i)
  rw [wd_or] at h
  generalize hx : wd S i = x at h ⊢
  generalize hy : wd T i = y at h ⊢
  generalize hz : wd (fun x => S x || T x) i = z at h ⊢
  clear hx hy hz
  go_enter Try.func48, Try.ntmps48
  go_wp2
  go_ret
  exact ⟨by first | rfl | (rw [h]), rfl⟩
theorem both1_any (S T : Px) (i : Nat) (w : World) : Calls Try.prog 49 #[.int .u64 (wd S i : Int), .int .u64 (wd T i : Int)] w fun e w' => e = .returned (.int .u64 (wd (fun x => S x && T x) i : Int)) ∧ w = w' := by
  have h := nat_and _ _ (wd_lt S i) (wd_lt T i)
  rw [wd_and] at h
  generalize hx : wd S i = x at h ⊢
  generalize hy : wd T i = y at h ⊢
  generalize hz : wd (fun x => S x && T x) i = z at h ⊢
  clear hx hy hz
  go_enter Try.func49, Try.ntmps49
  go_wp2
  go_ret
  exact ⟨by first | rfl | (rw [h]), rfl⟩
theorem without_any (S T : Px) (i : Nat) (w : World) : Calls Try.prog 50 #[.int .u64 (wd S i : Int), .int .u64 (wd T i : Int)] w fun e w' => e = .returned (.int .u64 (wd (fun x => S x && !(T x)) i : Int)) ∧ w = w' := by
  have h := nat_andNot _ _ (wd_lt S i) (wd_lt T i)
  rw [wd_without] at h
  generalize hx : wd S i = x at h ⊢
  generalize hy : wd T i = y at h ⊢
  generalize hz : wd (fun x => S x && !(T x)) i = z at h ⊢
  clear hx hy hz
  go_enter Try.func50, Try.ntmps50
  go_wp2
  go_ret
  exact ⟨by first | rfl | (rw [h]), rfl⟩
end Go.Proofs.Ytgbpmleipdecgaa
