/- Walks over package sky: cells by their numbers; Has; Coarse. -/
import Derived.Test.YtgbpmleipdecgaaSkyDb
namespace Go.Proofs.Ytgbpmleipdecgaa
open Go.RowKit
set_option linter.unusedSimpArgs false
set_option linter.unusedVariables false

/-- how many of a cell's pixels are there, and whether all are -/
def cntC (S : Px) (k p : Int) : Nat := cntP S (p.toNat * 4 ^ (4 - k).toNat) (4 ^ (4 - k).toNat)
def allC (S : Px) (k p : Int) : Bool := allP S (p.toNat * 4 ^ (4 - k).toNat) (4 ^ (4 - k).toNat)
theorem full_cell (S : Px) (k p : Int) (w : World) (hc : okP k p = true) :
    Calls Try.prog 67 #[rgV S, .agg #[.int .i64 k, .int .i64 p]] w fun e w' => e = .returned (.int .i64 (cntC S k p : Nat)) ∧ Below w.heap.size w w' := by
  obtain ⟨h, q, h1, rfl, rfl, h2⟩ := okP_form hc
  have := full_any S h q w h1 h2
  unfold cntC
  rw [show ((4 : Int) - (4 - (h : Int))).toNat = h by omega, Int.toNat_natCast]
  exact this
theorem all_cell (S : Px) (k p : Int) (w : World) (hc : okP k p = true) :
    Calls Try.prog 46 #[rgV S, .agg #[.int .i64 k, .int .i64 p]] w fun e w' => e = .returned (.bool (allC S k p)) ∧ Below w.heap.size w w' := by
  obtain ⟨h, q, h1, rfl, rfl, h2⟩ := okP_form hc
  have := all_any S h q w h1 h2
  unfold allC
  rw [show ((4 : Int) - (4 - (h : Int))).toNat = h by omega, Int.toNat_natCast]
  exact this
theorem reffull_cell (S : Px) (g c : Nat) (k p : Int) (w : World) (hX : BoxA w g S) (hc : okP k p = true) :
    Calls Try.prog 57 #[.slice (some ⟨g, 0, none⟩) 3072 c, .agg #[.int .i64 k, .int .i64 p]] w fun e w' => e = .returned (.bool (allC S k p)) ∧ Below w.heap.size w w' := by
  obtain ⟨h, q, h1, rfl, rfl, h2⟩ := okP_form hc
  have := reffull_any S g c h q w hX h1 h2
  unfold allC
  rw [show ((4 : Int) - (4 - (h : Int))).toNat = h by omega, Int.toNat_natCast]
  exact this
/-- a region read out of a list of regions, in a region that draws its order -/
theorem wpStill_load_reg {ops : Array Oper} {rest : List Oper} {o : Oper} {a : Act} {w : World} {Q : Act → Prop} (hg : o.guard = none) (x : Operand) (ho : o.op = .load 81 x)
    (b off : Nat) (hx : a.eval x = .pointer (some ⟨b, off, none⟩)) (S : Px) (hc : w.rangeAt b off (rgA S).toList) (h : wpStill Try.prog ops w Q rest (a.put o.dst (.agg (rgA S)))) : wpStill Try.prog ops w Q (o :: rest) a := by
  refine wpStill_step fun K hK => ?_
  rw [if_pos (by simp [Region.wanted, hg])]
  have hr := run_loadVar_mid (P := Try.prog) w b off 81 (rgA S).toList _ hc Try.underlying81 rfl (by rw [infoReg, Array.length_toList, rgA_size])
  unfold Oper.still execOp
  simp only [ho, hx, Instr.loadAt, Instr.sureAddr, Sem.run_bind, Sem.run_pure, Result.andThen_ok, hr]
  rw [Oper.stillUpon_value]
  exact hK _ h
theorem RdR.range {w : World} {B : Nat} {A : Option Addr} {U : Px} (h : RdR w B A [U]) : ∃ b, A = some ⟨b, 0, none⟩ ∧ b < B ∧ w.rangeAt b 0 (rgA U).toList := by
  rcases h with h | ⟨b, h1, h2, h3⟩
  · cases h
  · refine ⟨b, h1, h2, fun j v hv => ?_⟩
    have hj : j < 48 := by have := (List.getElem?_eq_some_iff.1 hv).1; rwa [Array.length_toList, rgA_size] at this
    have := h3 0 j (by simp) hj
    simp only [Nat.zero_mul, Nat.zero_add] at this ⊢
    rw [this]
    have h4 := rgA_get U hj
    rw [Array.getElem?_toList] at hv
    rw [← hv, h4]
    rfl
theorem range_below {w w' : World} {b o : Nat} {cs : List Value} (hB : Below w.heap.size w w') (hb : b < w.heap.size) (h : w.rangeAt b o cs) : w'.rangeAt b o cs := fun j v hv => (hB.cell (p := ⟨b, o + j, none⟩) hb).trans (h j v hv)
/-- what regions returns of one set -/
theorem regions_one (A : Option Addr) (c : Nat) (l : List (Int × Int)) (w : World) (hr : RdP w w.heap.size A l) (hl : l.length ≤ 1000000) :
    Calls Try.prog 44 #[.slice (some ⟨w.heap.size, 0, none⟩) 1 1] (w.alloc (.cells #[.slice A l.length c] 22)) fun e w' => Below w.heap.size w w' ∧ ((vldC l = false ∧ e = .returned (.tuple #[.slice none 0 0, .int .i64 60])) ∨
      (vldC l = true ∧ ∃ b c, e = .returned (.tuple #[.slice (some ⟨b, 0, none⟩) 1 c, .int .i64 0]) ∧ b < w'.heap.size ∧ w'.rangeAt b 0 (rgA (uniP l)).toList)) := by
  have hb1 := below_alloc w (.cells #[.slice A l.length c] 22)
  have hx1 := Box.new w 22 #[.slice A l.length c]
  have hrl : RdLC (w.alloc (.cells #[.slice A l.length c] 22)) (w.alloc (.cells #[.slice A l.length c] 22)).heap.size (some ⟨w.heap.size, 0, none⟩) [l] := by
    refine .inr ⟨w.heap.size, 0, rfl, by simp, fun k hk => ?_⟩
    have hk2 : k = 0 := by simpa using hk
    subst hk2
    exact ⟨A, c, hx1.cell 0, hr.on hb1⟩
  have h := regions_any (some ⟨w.heap.size, 0, none⟩) 1 [l] _ hrl (by simp) (fun x hx => by simp at hx; rw [hx]; exact hl)
  refine h.mono fun e w' hq => ?_
  obtain ⟨h1, ⟨⟨x, hx, hv⟩, he⟩ | ⟨hv, A1, c1, he, hrd⟩⟩ := hq
  · simp at hx
    exact ⟨hb1.trs h1, .inl ⟨by rw [← hx]; exact hv, he⟩⟩
  · obtain ⟨b, rfl, hb, hrg⟩ := RdR.range hrd
    exact ⟨hb1.trs h1, .inr ⟨hv l (by simp), b, c1, he, hb, hrg⟩⟩

def hasE (l : List (Int × Int)) (k p : Int) : Int := if vldC l then (if okP k p then 0 else 2) else 60
def hasB (l : List (Int × Int)) (k p : Int) : Bool := vldC l && okP k p && allC (uniP l) k p
set_option maxRecDepth 100000 in
set_option maxHeartbeats 4000000 in
theorem Has_any (A : Option Addr) (c : Nat) (l : List (Int × Int)) (k p : Int) (w : World) (hr : RdP w w.heap.size A l) (hl : l.length ≤ 1000000) :
    Calls Try.prog 13 #[.slice A l.length c, .agg #[.int .i64 k, .int .i64 p]] w fun e w' => e = .returned (.tuple #[.bool (hasB l k p), .int .i64 (hasE l k p)]) ∧ Below w.heap.size w w' := by
  have hb0 := below_alloc w (.cells #[.int .i64 k, .int .i64 p] 37)
  have hx0 := Box.new w 37 #[.int .i64 k, .int .i64 p]
  have HG := Lib.hid (regions_one A c l _ (hr.on hb0) hl)
  have HX := Lib.hid (And.intro hx0 hb0)
  have HI := Lib.hid (fun W => isCell_any k p W)
  have HAL := Lib.hid (fun (h : okP k p = true) W => all_cell (uniP l) k p W h)
  have HSZ := Lib.hid rgA_size
  have HB : Hid (hasB l k p = (vldC l && okP k p && allC (uniP l) k p)) := Lib.hid rfl
  have HE : Hid (hasE l k p = if vldC l then (if okP k p then 0 else 2) else 60) := Lib.hid rfl
  clear hr hb0 hx0 hl
  generalize hasB l k p = rb at *
  generalize hasE l k p = re at *
  unfold rgV at HAL
  generalize allC (uniP l) k p = al at *
  generalize uniP l = U at *
  generalize okP k p = ok at *
  generalize vldC l = vl at *
  generalize l.length = n at *
  go_enter Try.func13, Try.ntmps13
  go_upto_region 1 with (fail)
  generalize hW0 : w.alloc (.cells #[.int .i64 k, .int .i64 p] 37) = W0 at *
  clear hW0
  cases ok
  · go_wp2_with (first
      | (go_at_call 44; refine HG.out.mono ?_; rintro e w1 ⟨h1, ⟨rfl, rfl⟩ | ⟨rfl, b, c1, rfl, hb, hrg⟩⟩ <;> (have k0 := (HX.out.1.on h1).cell 0; have k1 := (HX.out.1.on h1).cell 1; simp at k0 k1))
      | (go_at_call 45; refine (HI.out _).mono ?_; rintro e w2 ⟨rfl, h2⟩))
    · go_ret2
      exact ⟨by rw [HB.out, HE.out]; first | done | rfl, HX.out.2.trs h1⟩
    · go_ret2
      exact ⟨by rw [HB.out, HE.out]; first | done | rfl, (HX.out.2.trs h1).trs h2⟩
  · have HALL := Lib.hid (HAL.out rfl)
    go_upto_region 6 with (first
      | (go_at_call 44; refine HG.out.mono ?_; rintro e w1 ⟨h1, ⟨rfl, rfl⟩ | ⟨rfl, b, c1, rfl, hb, hrg⟩⟩ <;> (have k0 := (HX.out.1.on h1).cell 0; have k1 := (HX.out.1.on h1).cell 1; simp at k0 k1))
      | (go_at_call 45; refine (HI.out _).mono ?_; rintro e w2 ⟨rfl, h2⟩; have k0 := (HX.out.1.on (h1.trs h2)).cell 0; have k1 := (HX.out.1.on (h1.trs h2)).cell 1; simp at k0 k1))
    · go_ret2
      exact ⟨by rw [HB.out, HE.out]; first | done | rfl, HX.out.2.trs h1⟩
    · have hrg2 := range_below h2 hb hrg
      have hb2 : b < w2.heap.size := Nat.lt_of_lt_of_le hb h2.size
      have hB2 := Lib.hid ((HX.out.2.trs h1).trs h2)
      clear h1 h2 hrg hb
      refine wp_region_still_tail 4 (by kernel_rfl) (by kernel_rfl) ?_
      simp only [List.take_succ_cons, List.take_zero, List.drop_succ_cons, List.drop_zero]
      change wpStill _ _ (w2.drewN 1) (fun a' => wpList _ _ _ _ a' (w2.drewN 1)) _ _
      have k0' : (w2.drewN 1).cell? ⟨w.heap.size, 0, none⟩ = some (.int .i64 k) := k0
      have k1' : (w2.drewN 1).cell? ⟨w.heap.size, 1, none⟩ = some (.int .i64 p) := k1
      have HRG : Hid ((w2.drewN 1).rangeAt b 0 (rgA U).toList) := Lib.hid hrg2
      have hB3 := Lib.hid (hB2.out.drewsN 1)
      clear k0 k1 hrg2 hb2
      generalize w2.drewN 1 = w3 at *
      repeat (first | (refine wpStill_load_reg rfl (.tmp 23) rfl b 0 rfl U HRG.out ?_) | (refine wpStill_step (fun K hK => ?_); go_simp; (first | refine hK _ ?_ | (go_values; refine hK _ ?_) | (go_values; go_simp; refine hK _ ?_) | (go_ite <;> go_prune <;> (try go_simp); refine hK _ ?_)); clear hK K))
      refine wpStill_nil ?_
      go_wp2_with (go_at_call 46; refine (HALL.out _).mono ?_; rintro e w4 ⟨rfl, h4⟩)
      go_ret2
      exact ⟨by rw [HB.out, HE.out]; first | done | rfl, hB3.out.trs h4⟩
end Go.Proofs.Ytgbpmleipdecgaa
