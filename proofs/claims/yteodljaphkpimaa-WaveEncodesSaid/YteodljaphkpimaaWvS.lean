/- Walks over the reference of chapter wave: the shortest text. -/
import Derived.Test.YteodljaphkpimaaWvR
import Derived.Test.YteodljaphkpimaaWvH
import Derived.Deep.RegionHeld3
namespace Go.Proofs.Yteodljaphkpimaa
open Go.RowKit Go.Shelf
set_option linter.unusedSimpArgs false
set_option linter.unusedVariables false
attribute [local go_sem] Oper.semAt_some

theorem encF_leB : ∀ l : List Int, LeB (1000 * l.length) (encF l)
  | [] => fun i hi x hx => by simp [encF] at hx; subst hx; simp
  | d :: r => (leB_step (encF_leB r) d).more (by simp; omega)
/-- five texts by value in a block -/
def StB (w : World) (g : Nat) (f : Nat → Tx) : Prop := Box w g 69 (vals5 fun i => txV (f i))
theorem StB.cell {w : World} {g : Nat} {f : Nat → Tx} (h : StB w g f) {i : Nat} (hi : i < 5) : w.cell? ⟨g, i, none⟩ = some (.string ⟨(f i).toArray⟩) := by rw [Box.cell h, vals5_get _ hi]; rfl
theorem StB.lt {w : World} {g : Nat} {f : Nat → Tx} (h : StB w g f) : g < w.heap.size := Box.lt h
theorem StB.frozen {w : World} {g : Nat} {f : Nat → Tx} (h : StB w g f) (i : Nat) : w.frozen? ⟨g, i, none⟩ = false := Box.frozen h i
theorem StB.on {w w' : World} {g : Nat} {f : Nat → Tx} (h : StB w g f) (hb : Below w.heap.size w w') : StB w' g f := Box.on h hb
theorem StB.far {w : World} {g g2 : Nat} {f : Nat → Tx} (h : StB w g f) (hg : g ≠ g2) (i : Nat) (x : Value) : StB (w.setCell ⟨g2, i, none⟩ x) g f := Box.far h (p := ⟨g2, i, none⟩) hg x
theorem StB.cong {w : World} {g : Nat} {f f' : Nat → Tx} (h : StB w g f) (he : ∀ i, i < 5 → f' i = f i) : StB w g f' := by
  unfold StB at *
  rw [show (vals5 fun i => txV (f' i)) = vals5 fun i => txV (f i) by unfold vals5; simp only [he 0 (by omega), he 1 (by omega), he 2 (by omega), he 3 (by omega), he 4 (by omega)]]
  exact h
theorem StB.set {w : World} {g : Nat} {f f' : Nat → Tx} (h : StB w g f) {i : Nat} (hi : i < 5) {x : Tx} (he : ∀ j, j < 5 → f' j = if j = i then x else f j) : StB (w.setCell ⟨g, i, none⟩ (.string ⟨x.toArray⟩)) g f' := by
  have h1 : StB (w.setCell ⟨g, i, none⟩ (.string ⟨x.toArray⟩)) g (fun j => if j = i then x else f j) := by
    have := Box.set_ h i (.string ⟨x.toArray⟩)
    unfold StB
    have e := vals5_set (fun i => txV (f i)) hi (.string ⟨x.toArray⟩)
    rw [Array.set!_eq_setIfInBounds] at e
    rw [e] at this
    rw [show (vals5 fun j => txV (if j = i then x else f j)) = vals5 (updV (fun j => txV (f j)) i (.string ⟨x.toArray⟩)) by
      congr 1
      funext j
      unfold updV txV
      split <;> rfl]
    exact this
  exact h1.cong he
theorem StB.move {w : World} {g2 : Nat} {f f2 : Nat → Tx} (h2 : StB w g2 f2) : StB (((((w.setCell ⟨g2, 0, none⟩ (.string ⟨(f 0).toArray⟩)).setCell ⟨g2, 1, none⟩ (.string ⟨(f 1).toArray⟩)).setCell ⟨g2, 2, none⟩ (.string ⟨(f 2).toArray⟩)).setCell ⟨g2, 3, none⟩ (.string ⟨(f 3).toArray⟩)).setCell ⟨g2, 4, none⟩ (.string ⟨(f 4).toArray⟩)) g2 f := by
  refine ((((((h2.set (i := 0) (by omega) (x := f 0) (fun j hj => rfl)).set (i := 1) (by omega) (x := f 1) (fun j hj => rfl)).set (i := 2) (by omega) (x := f 2) (fun j hj => rfl)).set (i := 3) (by omega) (x := f 3) (fun j hj => rfl)).set (i := 4) (by omega) (x := f 4) (fun j hj => rfl))).cong fun i hi => ?_
  have : i = 0 ∨ i = 1 ∨ i = 2 ∨ i = 3 ∨ i = 4 := by omega
  rcases this with rfl | rfl | rfl | rfl | rfl <;> simp
/-! ### the least text so far -/
/-- of the first k widths, from width i on -/
def mnF (F : Nat → Ot) (d : Int) (i k : Nat) : Ot := minD upK dnK (f0 F d) i k
theorem mnF_zero (F : Nat → Ot) (d : Int) (i : Nat) : mnF F d i 0 = none := rfl
theorem mnF_no {F : Nat → Ot} {d : Int} {i k : Nat} (h : canD (wid k) d = false) : mnF F d i (k + 1) = mnF F d i k := by
  unfold mnF
  rw [minD]
  unfold cand f0
  rw [if_neg (by rw [h]; decide)]
  cases minD upK dnK _ i k <;> rfl
theorem mnF_yes {F : Nat → Ot} {d : Int} {i k : Nat} {x : Tx} (h : canD (wid k) d = true) (hx : F k = some x) : mnF F d i (k + 1) = better (mnF F d i k) (some (toT upK dnK i k ++ wordB (wid k) d ++ x)) := by
  unfold mnF
  rw [minD]
  congr 1
  unfold cand f0
  rw [if_pos h, hx]
  simp [pre]
theorem mnF_five {F : Nat → Ot} {d : Int} {i : Nat} (hi : i < 5) : mnF F d i 5 = stepP F d i := (rl_min upK dnK _ hi).symm
set_option maxRecDepth 100000 in
set_option maxHeartbeats 8000000 in
theorem refEncode_any (A : Option Addr) (c : Nat) (ds : List Int) (w : World) (hr : RdI w w.heap.size A ds) (hl : ds.length ≤ 1000) (hv : ∀ k, k < ds.length → -1023 ≤ ix ds k ∧ ix ds k ≤ 1023) :
    Calls Try.prog 35 #[.slice A ds.length c] w fun e w' => e = .returned (.string ⟨((encF ds 2).getD []).toArray⟩) ∧ Below w.heap.size w w' := by
  have HR := Lib.hid hr
  have HV := Lib.hid hv
  have HWD := Lib.hid (fun k W (h : k < 5) => refWidth_any k W h)
  have HCN := Lib.hid (fun k d W => refCan_any (wid k) d W (wid_ok k))
  have HTO := Lib.hid (fun i k W (h1 : i < 5) (h2 : k < 5) => refTo_any i k W h1 h2)
  have HSH := Lib.hid refShorter_any
  have HTL := Lib.hid (fun i k (h1 : i < 5) (h2 : k < 5) => toT_le h1 h2)
  have HLB : Hid (∀ m, LeB 1000000 (encF (ds.drop m))) := Lib.hid (fun m => (encF_leB _).more (by rw [List.length_drop]; omega))
  have HDR : Hid (∀ j, j < ds.length → encF (ds.drop j) = stepP (encF (ds.drop (j + 1))) (ix ds j)) := Lib.hid (fun j hj => by
    rw [List.drop_eq_getElem_cons hj]
    simp only [encF]
    congr 1
    simp [ix, hj])
  have HSM : Hid (∀ m i, i < 5 → ∃ x, encF (ds.drop m) i = some x) := Lib.hid (fun m i hi => encF_some _ (fun d hd => by
    obtain ⟨k, hk, e⟩ := List.mem_iff_getElem.1 (List.mem_of_mem_drop hd)
    have := hv k hk
    rw [show ix ds k = d by rw [← e]; simp [ix, hk]] at this
    exact this) i hi)
  have HD0 : Hid (∀ i, encF (ds.drop ds.length) i = some []) := Lib.hid (fun i => by rw [List.drop_length]; rfl)
  have HZZ : Hid (encF (ds.drop 0) = encF ds) := Lib.hid rfl
  clear hr hv
  generalize hF : (fun m => encF (ds.drop m)) = F at *
  replace HLB : Hid (∀ m, LeB 1000000 (F m)) := Lib.hid (by rw [← hF]; exact HLB.out)
  replace HDR : Hid (∀ j, j < ds.length → F j = stepP (F (j + 1)) (ix ds j)) := Lib.hid (by rw [← hF]; exact HDR.out)
  replace HSM : Hid (∀ m i, i < 5 → ∃ x, F m i = some x) := Lib.hid (by rw [← hF]; exact HSM.out)
  replace HD0 : Hid (∀ i, F ds.length i = some []) := Lib.hid (by rw [← hF]; exact HD0.out)
  replace HZZ : Hid (F 0 = encF ds) := Lib.hid (by rw [← hF]; exact HZZ.out)
  clear hF
  rw [← HZZ.out]
  clear HZZ
  generalize hn : ds.length = n at *
  have HN := Lib.hid hn; clear hn
  have e1 : IntKind.i64.wrap ((n : Int) - 1) = (n : Int) - 1 := IntWalk.i64_in _ (by omega)
  have e2 : wrap64 ((n : Int) - 1) = (n : Int) - 1 := IntWalk.wrap64_in _ (by omega)
  go_enter Try.func35, Try.ntmps35
  go_upto_region 2 with (fail)
  have hx3 : StB (w.alloc (.cells #[.string ⟨#[]⟩, .string ⟨#[]⟩, .string ⟨#[]⟩, .string ⟨#[]⟩, .string ⟨#[]⟩] 69)) w.heap.size (fun _ => []) := Box.new w _ _
  have hb3 := below_alloc w (.cells #[.string ⟨#[]⟩, .string ⟨#[]⟩, .string ⟨#[]⟩, .string ⟨#[]⟩, .string ⟨#[]⟩] 69)
  generalize hw3 : w.alloc (.cells #[.string ⟨#[]⟩, .string ⟨#[]⟩, .string ⟨#[]⟩, .string ⟨#[]⟩, .string ⟨#[]⟩] 69) = w3 at *
  generalize hg3 : w.heap.size = g3 at *
  have H3 := Lib.hid (And.intro hx3 hb3)
  have HG3 := Lib.hid hg3
  clear hx3 hb3 hw3 hg3
  go_wp2
  go_loopg [4] n (fun gk t wr => ∃ (m : Nat) (f : Nat → Tx), t = .int .i64 ((m : Int) - 1) ∧ m ≤ n ∧ m ≤ gk ∧ (∀ i, i < 5 → F m i = some (f i)) ∧ StB wr g3 f ∧ Below g3 w wr)
  case atStart => exact ⟨n, fun _ => [], rfl, by omega, by omega, fun i _ => HD0.out i, H3.out.1, H3.out.2⟩
  case round =>
    obtain ⟨m, f, rfl, hm, hgk, hF, hS, hB⟩ := hrel
    by_cases hlt : 0 < m
    · obtain ⟨j, rfl⟩ : ∃ j, m = j + 1 := ⟨m - 1, by omega⟩
      rw [show ((j + 1 : Nat) : Int) - 1 = (j : Int) by omega]
      have hj0 : (0 : Int) ≤ (j : Int) := by omega
      have HST := Lib.hid (And.intro hS (And.intro hB (And.intro hF (And.intro hm hgk))))
      clear hS hB hF hgk
      go_upto_region 6 with (fail)
      have hal := below_alloc wr (.cells #[.string ⟨#[]⟩, .string ⟨#[]⟩, .string ⟨#[]⟩, .string ⟨#[]⟩, .string ⟨#[]⟩] 69)
      have hx5 : StB (wr.alloc (.cells #[.string ⟨#[]⟩, .string ⟨#[]⟩, .string ⟨#[]⟩, .string ⟨#[]⟩, .string ⟨#[]⟩] 69)) wr.heap.size (fun _ => []) := Box.new wr _ _
      generalize hw5 : wr.alloc (.cells #[.string ⟨#[]⟩, .string ⟨#[]⟩, .string ⟨#[]⟩, .string ⟨#[]⟩, .string ⟨#[]⟩] 69) = w5 at *
      have hg35 : g3 < wr.heap.size := HST.out.1.lt
      have hne35 : g3 ≠ wr.heap.size := by omega
      generalize hg5 : wr.heap.size = g5 at *
      have H5 := Lib.hid (And.intro hx5 (And.intro (HST.out.1.on (by rw [hg5]; exact hal)) (HST.out.2.1.trans (hal.mono (by omega)))))
      have HGG := Lib.hid hg35
      clear hx5 hal hw5 hg5
      go_wp2
      go_loopg [17] 5 (fun gk t w7 => ∃ (i : Nat) (h : Nat → Tx), t = .int .i64 i ∧ i ≤ 5 ∧ 5 - i ≤ gk ∧ (∀ a, a < i → stepP (F (j + 1)) (ix ds j) a = some (h a)) ∧ (∀ a, i ≤ a → h a = []) ∧ StB w7 g5 h ∧ StB w7 g3 f ∧ Below g3 w w7)
      case atStart => exact ⟨0, fun _ => [], rfl, by omega, by omega, fun a ha => by omega, fun a _ => rfl, H5.out.1, H5.out.2.1, H5.out.2.2⟩
      case round =>
        obtain ⟨i, h, rfl, hi, hgk, hh, hz, hS5, hS3, hB⟩ := hrel
        by_cases hlt : i < 5
        · have hltI : (i : Int) < 5 := by omega
          have HH := Lib.hid (And.intro hh (And.intro hz (And.intro hgk (And.intro hlt hi))))
          have HW7 := Lib.hid (And.intro hS5 (And.intro hS3 hB))
          have HM0 : Hid (∀ a, h a = if a = i then (mnF (F (j + 1)) (ix ds j) i 0).getD [] else h a) := Lib.hid (fun a => by
            by_cases e : a = i
            · rw [if_pos e, e, hz i (Nat.le_refl _)]; rfl
            · rw [if_neg e])
          have HMZ := Lib.hid (mnF_zero (F (j + 1)) (ix ds j) i)
          have HM5 := Lib.hid (mnF_five (F := F (j + 1)) (d := ix ds j) hlt)
          have HMN := Lib.hid (fun k (hc : canD (wid k) (ix ds j) = false) => mnF_no (F := F (j + 1)) (i := i) hc)
          have HMY := Lib.hid (fun k x (hc : canD (wid k) (ix ds j) = true) (hx : F (j + 1) k = some x) => mnF_yes (i := i) hc hx)
          have hd := HV.out j (by omega)
          clear hS5 hS3 hB hh hz hgk hi
          generalize mnF (F (j + 1)) (ix ds j) i = M at *
          go_wp2
          go_loopg [7, 20] 5 (fun gk sb t w8 => ∃ k : Nat, t = .int .i64 k ∧ sb = .bool (M k).isSome ∧ k ≤ 5 ∧ 5 - k ≤ gk ∧ StB w8 g5 (fun a => if a = i then (M k).getD [] else h a) ∧ StB w8 g3 f ∧ Below g3 w w8)
          case atStart => exact ⟨0, rfl, by rw [HMZ.out]; rfl, by omega, by omega, HW7.out.1.cong (fun a _ => (HM0.out a).symm), HW7.out.2.1, HW7.out.2.2⟩
          case round =>
            obtain ⟨k, rfl, rfl, hk, hgk, hS5, hS3, hB⟩ := hrel
            by_cases hk5 : k < 5
            · have hkI : (k : Int) < 5 := by omega
              have hk0 : (0 : Int) ≤ (k : Int) := by omega
              obtain ⟨b, o, rfl, hb1, d1⟩ := HR.out.at_ (k := j) (by rw [HN.out]; omega)
              rw [← hB.cell (p := ⟨b, o + j, none⟩) hb1] at d1
              have hjn : (j : Int) < (n : Int) := by omega
              have HS := Lib.hid (And.intro hS5 (And.intro hS3 (And.intro hB (And.intro hgk (And.intro hk hk5)))))
              have HWk := Lib.hid (fun W => HWD.out k W hk5)
              have HCk := Lib.hid (fun W => HCN.out k (ix ds j) W)
              have HHc := Lib.hid hd
              have hgk5 := HS.out.1.cell (i := i) (by have := HH.out; omega)
              have hga := HS.out.2.1.cell (i := k) hk5
              clear hS5 hS3 hB
              cases hc : canD (wid k) (ix ds j)
              · rw [hc] at HCk
                have HMc := Lib.hid (HMN.out k hc)
                clear hc
                generalize ix ds j = d at *
                go_wp2
                go_region_held3 (fun w' => w'.cell? ⟨b, o + j, none⟩ = some (.int .i64 d)) (first | assumption | go_keep)
                  (first
                    | (go_at_call 37; refine (HWk.out _).mono ?_; rintro e w9 ⟨rfl, rfl⟩)
                    | (go_at_call 32; refine (HCk.out _).mono ?_; rintro e w9 ⟨rfl, rfl⟩))
                go_wp2
                go_roundg (5 - (k + 1))
                case measure => omega
                case rel => exact ⟨k + 1, by go_num, by rw [HMc.out], by omega, by omega, by rw [HMc.out]; exact HS.out.1.on (Below.refl _ _).drew, HS.out.2.1.on (Below.refl _ _).drew, HS.out.2.2.1.drew⟩
              · rw [hc] at HCk
                obtain ⟨hF5, hF6, hF7⟩ : (∀ a, a < 5 → F (j + 1) a = some (f a)) ∧ j + 1 ≤ n ∧ True := ⟨HST.out.2.2.1, HST.out.2.2.2.1, trivial⟩
                have HMc := Lib.hid (HMY.out k (f k) hc (hF5 k hk5))
                have hfl := HLB.out (j + 1) k hk5 (f k) (hF5 k hk5)
                have HCD : Hid (-(hf (wid k)) ≤ ix ds j ∧ ix ds j < hf (wid k)) := Lib.hid (by have := btw_iff.1 hc; omega)
                clear hc hF5 hF6 hF7
                have HTk := Lib.hid (fun W => HTO.out i k W (by have := HH.out; omega) hk5)
                have htl := HTL.out i k (by have := HH.out; omega) hk5
                have hok := okW_le (wid_ok k)
                have hwl := Nat.le_of_eq (wordB_len (wid k) (ix ds j))
                have HWo : Hid (∀ W, Calls Try.prog 51 #[.int .i64 (wid k), .int .i64 (ix ds j)] W fun e w' => e = .returned (.string ⟨(wordB (wid k) (ix ds j)).toArray⟩) ∧ w' = W) := Lib.hid (fun W => refWord_any _ _ W hok HCD.out.1 HCD.out.2)
                generalize ix ds j = d at *
                generalize toT upK dnK i k = T at *
                generalize wordB (wid k) d = X at *
                generalize hfk : f k = Y at *
                generalize hW : wid k = wk at *
                clear hW
                have hbA : ¬ 9223372036854775807 < T.length + X.length := by omega
                have hbB : ¬ 9223372036854775807 < (T ++ X).length + Y.length := by rw [List.length_append]; omega
                have hbC : ¬ 9223372036854775807 < T.length + X.length + Y.length := by omega
                have hbD : ¬ (9223372036854775807 : Int) < (T.length : Int) + (X.length : Int) := by omega
                have hbE : ¬ (9223372036854775807 : Int) < (T.length : Int) + (X.length : Int) + (Y.length : Int) := by omega
                have a1 : (⟨T.toArray⟩ : ByteArray) ++ ⟨X.toArray⟩ = ⟨(T ++ X).toArray⟩ := ba_app T X
                have a2 : (⟨(T ++ X).toArray⟩ : ByteArray) ++ ⟨Y.toArray⟩ = ⟨(T ++ X ++ Y).toArray⟩ := ba_app (T ++ X) Y
                go_wp2
                go_region_held3 (fun w' => w'.cell? ⟨b, o + j, none⟩ = some (.int .i64 d) ∧ w'.cell? ⟨g3, k, none⟩ = some (.string ⟨Y.toArray⟩)) (first | (refine ⟨?_, ?_⟩ <;> first | assumption | go_keep) | assumption | go_keep)
                  (first
                    | (go_at_call 37; refine (HWk.out _).mono ?_; rintro e w9 ⟨rfl, rfl⟩)
                    | (go_at_call 32; refine (HCk.out _).mono ?_; rintro e w9 ⟨rfl, rfl⟩))
                go_wp2
                go_region_held3 (fun w' => w'.cell? ⟨b, o + j, none⟩ = some (.int .i64 d) ∧ w'.cell? ⟨g3, k, none⟩ = some (.string ⟨Y.toArray⟩)) (first | (refine ⟨?_, ?_⟩ <;> first | assumption | go_keep) | assumption | go_keep)
                  (first
                    | (go_at_call 50; refine (HTk.out _).mono ?_; rintro e w9 ⟨rfl, rfl⟩)
                    | (go_at_call 37; refine (HWk.out _).mono ?_; rintro e w9 ⟨rfl, rfl⟩)
                    | (go_at_call 51; refine (HWo.out _).mono ?_; rintro e w9 ⟨rfl, rfl⟩))
                have hLT := (HH.out.2.2.2.1)
                have HS9 := Lib.hid (And.intro (HS.out.1.on (Below.refl _ _).drew.drew) (And.intro (HS.out.2.1.on (Below.refl _ _).drew.drew) HS.out.2.2.1.drew.drew))
                clear hgk5 d1 hga
                generalize wr.drew.drew = w9 at *
                have hgk9 := HS9.out.1.cell hLT
                have hf9 := HS9.out.1.frozen i
                rw [if_pos rfl] at hgk9
                cases hmk : M k with
                | none =>
                  rw [hmk] at hgk9 HMc
                  simp only [Option.isSome_none, Option.getD_none] at hgk9 ⊢
                  go_wp2
                  go_roundg (5 - (k + 1))
                  case measure => omega
                  case rel => exact ⟨k + 1, by go_num, by rw [HMc.out]; rfl, by omega, by omega, HS9.out.1.set hLT (fun a _ => by
                    rw [HMc.out]
                    by_cases e : a = i
                    · rw [if_pos e, if_pos e]; simp [better]
                    · rw [if_neg e, if_neg e, if_neg e]), HS9.out.2.1.far (Nat.ne_of_lt HGG.out) _ _, HS9.out.2.2.setCell (p := ⟨g5, i, none⟩) (Nat.le_of_lt HGG.out) _⟩
                | some Z =>
                  rw [hmk] at hgk9 HMc
                  simp only [Option.isSome_some, Option.getD_some] at hgk9 ⊢
                  have HSZ := Lib.hid (fun W => HSH.out (T ++ X ++ Y) Z W)
                  rw [better_shT, List.append_assoc] at HMc
                  rw [List.append_assoc] at HSZ
                  cases hsh : shT (T ++ (X ++ Y)) Z
                  · rw [hsh] at HSZ HMc
                    go_wp2_with (go_at_call 55; refine (HSZ.out _).mono ?_; rintro e w10 ⟨rfl, rfl⟩)
                    go_roundg (5 - (k + 1))
                    case measure => omega
                    case rel => exact ⟨k + 1, by go_num, by rw [HMc.out]; rfl, by omega, by omega, HS9.out.1.cong (fun a _ => by
                      rw [HMc.out, hmk]
                      by_cases e : a = i
                      · rw [if_pos e, if_pos e]; simp
                      · rw [if_neg e, if_neg e]), HS9.out.2.1, HS9.out.2.2⟩
                  · rw [hsh] at HSZ HMc
                    go_wp2_with (go_at_call 55; refine (HSZ.out _).mono ?_; rintro e w10 ⟨rfl, rfl⟩)
                    go_roundg (5 - (k + 1))
                    case measure => omega
                    case rel => exact ⟨k + 1, by go_num, by rw [HMc.out]; rfl, by omega, by omega, HS9.out.1.set hLT (fun a _ => by
                      rw [HMc.out]
                      by_cases e : a = i
                      · rw [if_pos e, if_pos e]; simp
                      · rw [if_neg e, if_neg e, if_neg e]), HS9.out.2.1.far (Nat.ne_of_lt HGG.out) _ _, HS9.out.2.2.setCell (p := ⟨g5, i, none⟩) (Nat.le_of_lt HGG.out) _⟩
            · obtain rfl : k = 5 := by omega
              have HS := Lib.hid (And.intro hS5 (And.intro hS3 hB))
              clear hS5 hS3 hB
              go_wp2
              go_roundg (5 - (i + 1))
              case measure => have := HH.out; omega
              case rel => exact ⟨i + 1, fun a => if a = i then (M 5).getD [] else h a, by go_num, by have := HH.out; omega, by have := HH.out; omega, fun a ha => by
                dsimp only
                by_cases e : a = i
                · subst e
                  obtain ⟨x, hx⟩ := HSM.out j a hlt
                  rw [HDR.out j (by omega)] at hx
                  rw [if_pos rfl, HM5.out, hx]
                  rfl
                · rw [if_neg e]
                  exact HH.out.1 a (by omega), fun a ha => by
                dsimp only
                rw [if_neg (by omega)]
                exact HH.out.2.1 a (by omega), HS.out.1, HS.out.2.1, HS.out.2.2⟩
        · obtain rfl : i = 5 := by omega
          have c0 := hS5.cell (i := 0) (by omega)
          have c1 := hS5.cell (i := 1) (by omega)
          have c2 := hS5.cell (i := 2) (by omega)
          have c3 := hS5.cell (i := 3) (by omega)
          have c4 := hS5.cell (i := 4) (by omega)
          have b0 := hS3.cell (i := 0) (by omega)
          have b1 := hS3.cell (i := 1) (by omega)
          have b2 := hS3.cell (i := 2) (by omega)
          have b3 := hS3.cell (i := 3) (by omega)
          have b4 := hS3.cell (i := 4) (by omega)
          have f0 := hS3.frozen 0
          have f1 := hS3.frozen 1
          have f2 := hS3.frozen 2
          have f3 := hS3.frozen 3
          have f4 := hS3.frozen 4
          have HS := Lib.hid (And.intro hS5 (And.intro hS3 (And.intro hB (And.intro hh hgk))))
          clear hS5 hS3 hB hh hz
          go_wp2
          go_roundg j
          case measure => have := HST.out.2.2.2.2; omega
          case rel => exact ⟨j, h, rfl, by omega, by omega, fun i hi => by
            rw [HDR.out j (by omega)]
            exact HS.out.2.2.2.1 i hi, HS.out.2.1.move, (((((HS.out.2.2.1.setCell (p := ⟨g3, 0, none⟩) (Nat.le_refl _) _).setCell (p := ⟨g3, 1, none⟩) (Nat.le_refl _) _).setCell (p := ⟨g3, 2, none⟩) (Nat.le_refl _) _).setCell (p := ⟨g3, 3, none⟩) (Nat.le_refl _) _).setCell (p := ⟨g3, 4, none⟩) (Nat.le_refl _) _)⟩
    · obtain rfl : m = 0 := by omega
      have c2 := hS.cell (i := 2) (by omega)
      have HFX := Lib.hid (hF 2 (by omega))
      have HB := Lib.hid hB
      rw [show ((0 : Nat) : Int) - 1 = -1 by omega]
      clear hF hB hS
      go_wp2
      go_ret
      exact ⟨by rw [HFX.out]; rfl, by rw [HG3.out]; exact HB.out⟩
end Go.Proofs.Yteodljaphkpimaa
