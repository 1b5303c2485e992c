/- Walks over package wave and its reference: Bound. -/
import Derived.Test.YtkjiancdhaocaaaDoorWvV
namespace Go.Proofs.YtkjiancdhaocaaaDoor
open Go.RowKit Go.Shelf
set_option linter.unusedSimpArgs false
set_option linter.unusedVariables false
attribute [local go_sem] Oper.semAt_some

/-- the number of the least width of a difference -/
def lwK (d : Int) : Nat := if canD (wid 0) d = true then 0 else if canD (wid 1) d = true then 1 else if canD (wid 2) d = true then 2 else if canD (wid 3) d = true then 3 else 4
theorem lwK_lt (d : Int) : lwK d < 5 := by
  unfold lwK
  repeat' split
  all_goals omega
theorem lwK_no {d : Int} {k : Nat} (h : k < lwK d) : canD (wid k) d = false := by
  unfold lwK at h
  cases h0 : canD (wid 0) d <;> rw [h0] at h
  · cases h1 : canD (wid 1) d <;> rw [h1] at h
    · cases h2 : canD (wid 2) d <;> rw [h2] at h
      · cases h3 : canD (wid 3) d <;> rw [h3] at h
        · simp at h
          have : k = 0 ∨ k = 1 ∨ k = 2 ∨ k = 3 := by omega
          rcases this with rfl | rfl | rfl | rfl <;> assumption
        · simp at h
          have : k = 0 ∨ k = 1 ∨ k = 2 := by omega
          rcases this with rfl | rfl | rfl <;> assumption
      · simp at h
        have : k = 0 ∨ k = 1 := by omega
        rcases this with rfl | rfl <;> assumption
    · simp at h
      subst h
      assumption
  · simp at h
theorem lwK_yes {d : Int} (h : canD 11 d = true) : canD (wid (lwK d)) d = true := by
  unfold lwK
  split
  · assumption
  · split
    · assumption
    · split
      · assumption
      · split
        · assumption
        · exact h
theorem lwK_idx {d : Int} (h : canD 11 d = true) : idxF (fun k => canD (ix widL k).toNat d) widL.length = (lwK d : Nat) := by
  refine idxF_hit (lwK_lt d) ?_ fun t ht => ?_
  · rw [widL_ix (lwK_lt d), Int.toNat_natCast]; exact lwK_yes h
  · rw [widL_ix (by have := lwK_lt d; omega), Int.toNat_natCast]; exact lwK_no ht
def smW (ds : List Int) : Nat → Int
  | 0 => 0
  | i + 1 => smW ds i + (wid (lwK (ix ds i)) : Int)
theorem smW_le (ds : List Int) : ∀ i, 0 ≤ smW ds i ∧ smW ds i ≤ 11 * i
  | 0 => ⟨Int.le_refl _, by simp [smW]⟩
  | i + 1 => by
    rw [smW]
    have := smW_le ds i
    have := (okW_le (wid_ok (lwK (ix ds i)))).2
    omega
def boundV (s : List Int) : Int := if vldW s = true then smW (difs s) s.length else 0
set_option maxHeartbeats 1000000 in
theorem bound1_any (g : Nat) (v : Nat) (d : Int) (w : World) (hv : okW v) (hc : w.cell? ⟨g, 0, none⟩ = some (.int .i64 d)) : Calls Tryd.prog 27 #[.int .i64 v, .pointer (some ⟨g, 0, none⟩)] w fun e w' => e = .returned (.bool (canD v d)) ∧ w' = w := by
  have HH := Lib.hid (fun W => has_any v d W hv)
  generalize canD v d = r at *
  go_enter Tryd.func27, Tryd.ntmps27
  go_wp2_with (go_at_call 28; refine (HH.out _).mono ?_; rintro e w1 ⟨rfl, rfl⟩)
  go_ret
  exact ⟨rfl, rfl⟩
set_option maxRecDepth 100000 in
set_option maxHeartbeats 4000000 in
theorem Bound_any (A : Option Addr) (c : Nat) (s : List Int) (w : World) (hr : RdI w w.heap.size A s) (hl : s.length ≤ 1000000) :
    Calls Tryd.prog 10 #[.slice A s.length c] w fun e w' => e = .returned (.tuple #[.int .i64 (boundV s), .int .i64 (encE s)]) ∧ Below w.heap.size w w' := by
  have HV := Lib.hid (Valid_any A c s w hr hl)
  unfold boundV encE
  cases hv : vldW s
  · rw [hv] at HV
    clear hr
    go_enter Tryd.func10, Tryd.ntmps10
    go_wp2_with (go_at_call 20; refine HV.out.mono ?_; rintro e w1 ⟨rfl, h1⟩)
    go_ret2
    exact ⟨by simp, h1⟩
  · obtain ⟨hv1, hv2, hv3⟩ := vldW_iff.1 hv
    have hdl := difs_len s
    have HD := Lib.hid (fun w1 (h1 : Below w.heap.size w w1) => differences_any A c s w1 (hr.on h1) (by omega) hv3)
    have HCN := Lib.hid (fun i (hi : i < s.length) => wide_can hv hi)
    have HWI := Lib.hid widths_any
    have HSL := Lib.hid (smW_le (difs s))
    have HSS : Hid (∀ i, smW (difs s) (i + 1) = smW (difs s) i + (wid (lwK (ix (difs s) i)) : Int)) := Lib.hid fun _ => rfl
    have HS0 : Hid (smW (difs s) 0 = 0) := Lib.hid rfl
    unfold widV at HWI
    unfold LisQ at HD
    rw [hv] at HV
    rw [hdl] at HD
    have HDL := Lib.hid hdl
    clear hr hv hv3 hdl
    generalize difs s = ds at *
    generalize smW ds = sm at *
    generalize s.length = n at *
    go_enter Tryd.func10, Tryd.ntmps10
    go_wp2_with (first
      | (go_at_call 20; refine HV.out.mono ?_; rintro e w1 ⟨rfl, h1⟩)
      | (go_at_call 23; refine (HD.out _ h1).mono ?_; rintro e w2 ⟨h2, A2, c2, rfl, hr2⟩; replace hr2 := Lib.hid hr2))
    have H2 := Lib.hid (h1.trs h2)
    clear h1 h2
    go_loopg [4, 14] n (fun gk u t wr => ∃ i : Nat, t = .int .i64 i ∧ u = .int .i64 (sm i) ∧ i ≤ n ∧ n - i ≤ gk ∧ Below w2.heap.size w2 wr)
    case atStart => exact ⟨0, rfl, by rw [HS0.out], by omega, by omega, Below.refl _ _⟩
    case round =>
      obtain ⟨i, rfl, rfl, hi, hgk, hB⟩ := hrel
      by_cases hlt : i < n
      · obtain ⟨b, o, rfl, hb1, d1⟩ := hr2.out.at_ (k := i) (by rw [HDL.out]; exact hlt)
        rw [← hB.cell (p := ⟨b, o + i, none⟩) hb1] at d1
        have hcan := HCN.out i hlt
        have HIX := Lib.hid (lwK_idx hcan)
        have hsl := HSL.out i
        have HSi := Lib.hid (HSS.out i)
        have hkl := lwK_lt (ix ds i)
        have hwo := (okW_le (wid_ok (lwK (ix ds i)))).2
        have HBr := Lib.hid hB
        have hin : (i : Int) < (n : Int) := by omega
        have hi0 : (0 : Int) ≤ (i : Int) := by omega
        have hkI : ((lwK (ix ds i) : Nat) : Int) < 5 := by omega
        clear hB hcan
        generalize ix ds i = d at *
        go_upto_region 8 with (go_at_call 25; refine (HWI.out _).mono ?_; rintro e w4 ⟨rfl, h4⟩)
        have hbn := Box.new wr 3 #[.int .i64 d]
        have hbw := Box.new w4 47 #[.int .i64 1, .int .i64 2, .int .i64 3, .int .i64 6, .int .i64 11]
        have hb4 : Below wr.heap.size wr w4 := (below_alloc wr (.cells #[.int .i64 d] 3)).trs h4
        have hb5 := hb4.trs (below_alloc w4 (.cells #[.int .i64 1, .int .i64 2, .int .i64 3, .int .i64 6, .int .i64 11] 47))
        have hbn5 := (hbn.on h4).on (below_alloc w4 (.cells #[.int .i64 1, .int .i64 2, .int .i64 3, .int .i64 6, .int .i64 11] 47))
        generalize hw5 : w4.alloc (.cells #[.int .i64 1, .int .i64 2, .int .i64 3, .int .i64 6, .int .i64 11] 47) = w5 at *
        have hrd : RdI w5 w5.heap.size (some ⟨w4.heap.size, 0, none⟩) widL := .inr ⟨_, 0, rfl, hbw.lt, fun k hk => by
          rw [Nat.zero_add, Box.cell hbw]
          have : k = 0 ∨ k = 1 ∨ k = 2 ∨ k = 3 ∨ k = 4 := by simp [widL] at hk; omega
          rcases this with rfl | rfl | rfl | rfl | rfl <;> rfl⟩
        have HXF := Lib.hid (IndexFuncI_any 27 #[.pointer (some ⟨wr.heap.size, 0, none⟩)] (some ⟨w4.heap.size, 0, none⟩) 5 widL (fun v => canD v.toNat d) w5 hrd (by simp [widL]) (enters_of Tryd.func27 (by kernel_rfl) rfl) (fun W i hW hi => by
          dsimp only
          rw [widL_ix hi, Int.toNat_natCast]
          exact (bound1_any _ (wid i) d W (wid_ok i) ((hbn5.on hW).cell 0)).mono fun e w' h => ⟨h.1, by rw [h.2]; exact Below.refl _ _⟩))
        rw [HIX.out, show widL.length = 5 from rfl] at HXF
        have hck : w5.cell? ⟨w4.heap.size, lwK d, none⟩ = some (.int .i64 (wid (lwK d))) := by
          rw [Box.cell hbw]
          have : lwK d = 0 ∨ lwK d = 1 ∨ lwK d = 2 ∨ lwK d = 3 ∨ lwK d = 4 := by omega
          rcases this with e | e | e | e | e <;> rw [e] <;> rfl
        have hg4 : w4.heap.size < w5.heap.size := hbw.lt
        have HB5 := Lib.hid hb5
        clear hrd hbw hbn hbn5 hb4 hb5 h4 hw5 d1
        generalize w4.heap.size = g4 at *
        generalize hkd : lwK d = k at *
        have HKD := Lib.hid hkd
        clear hkd
        generalize wid k = wk at *
        have e1 : IntKind.i64.wrap (sm i + (wk : Int)) = sm i + (wk : Int) := IntWalk.i64_in _ (by omega)
        have e2 : wrap64 (sm i + (wk : Int)) = sm i + (wk : Int) := IntWalk.wrap64_in _ (by omega)
        have hk0 : (0 : Int) ≤ (k : Int) := by omega
        go_wp2_with (go_at_call 26; refine HXF.out.mono ?_; rintro e w6 ⟨rfl, h6⟩; have hk6 := (h6.cell (p := ⟨g4, k, none⟩) hg4).trans hck)
        go_roundg (n - (i + 1))
        case measure => omega
        case rel => exact ⟨i + 1, by go_num, by rw [HSi.out], by omega, by omega, HBr.out.trans ((HB5.out.trs h6).mono HBr.out.size)⟩
      · obtain rfl : i = n := by omega
        have HB := Lib.hid hB
        clear hB
        go_wp2
        go_ret2
        exact ⟨rfl, H2.out.trs HB.out⟩
end Go.Proofs.YtkjiancdhaocaaaDoor
