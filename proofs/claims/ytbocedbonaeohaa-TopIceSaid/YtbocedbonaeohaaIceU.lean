/- Walks over the reference of ice: lights, Light. -/
import Derived.Test.YtbocedbonaeohaaIceT
import Derived.Test.YtbocedbonaeohaaLib5
namespace Go.Proofs.Ytbocedbonaeohaa
set_option linter.unusedVariables false
open Go.RowKit

def litB (l : List Int) (s : Int) (a m : Nat) : Bool := decide (up l a s ≤ m) && decide (m < dn l a s)
theorem litB_iff {l : List Int} {s : Int} {a m : Nat} : litB l s a m = true ↔ lit l s a m := by simp [litB, lit]
theorem reflights_any (A : Option Addr) (c : Nat) (l : List Int) (a m : Nat) (s : Int) (w : World) (hr : RdI w w.heap.size A l) (hm : ∀ k, 0 ≤ ix l k ∧ ix l k ≤ 100) (hl : l.length ≤ 600) (ha : a ≤ l.length) (hs : 0 ≤ s) (hs2 : s ≤ 1000000) :
    Calls Try.prog 36 #[.slice A l.length c, .int .i64 a, .int .i64 m, .int .i64 s] w fun e w' => e = .returned (.bool (litB l s a m)) ∧ w = w' := by
  have HU := Lib.hid (refup_any A c l a s w hr hm hl ha hs hs2)
  have HD := Lib.hid (refdown_any A c l a s w hr hm hl ha hs hs2)
  clear hr hm
  unfold litB
  generalize up l a s = u at *
  generalize dn l a s = v at *
  by_cases h : u ≤ m
  · go_enter Try.func36, Try.ntmps36
    go_wp2_with (first | (go_at_call 34; refine HU.out.mono ?_; rintro e w' ⟨rfl, rfl⟩) | (go_at_call 35; refine HD.out.mono ?_; rintro e w' ⟨rfl, rfl⟩))
    go_ret
    exact ⟨ret_bool (by rw [Bool.eq_iff_iff]; simp; omega), rfl⟩
  · have hd : decide ((u : Int) ≤ (m : Int)) = false := by simpa using h
    go_enter Try.func36, Try.ntmps36
    go_wp2_with (first | (go_at_call 34; refine HU.out.mono ?_; rintro e w' ⟨rfl, rfl⟩) | (go_at_call 35; refine HD.out.mono ?_; rintro e w' ⟨rfl, rfl⟩))
    go_ret
    exact ⟨ret_bool (by rw [Bool.eq_iff_iff]; simp; omega), rfl⟩

theorem infoBool : (Try.prog.info? 4).map (fun i => (i.zero, i.size, i.bytes)) = some (some (.bool false), 1, 1) := by kernel_rfl

/-- what is lit by the first lamps -/
def litBy (l : List Int) (s : Int) (r : List Nat) (i : Nat) (p : Nat → Bool) : Prop := ∀ m, m < l.length → (p m = true ↔ ∃ k, k < i ∧ lit l s (nx r k) m)
def litTo (l : List Int) (s : Int) (r : List Nat) (i j : Nat) (p : Nat → Bool) : Prop := ∀ m, m < l.length → (p m = true ↔ (∃ k, k < i ∧ lit l s (nx r k) m) ∨ (up l (nx r i) s ≤ m ∧ m < j))
theorem litBy_zero {l : List Int} {s : Int} {r : List Nat} : litBy l s r 0 (fun _ => false) := fun m _ => by simp
theorem litTo_start {l : List Int} {s : Int} {r : List Nat} {i : Nat} {p : Nat → Bool} (h : litBy l s r i p) : litTo l s r i (up l (nx r i) s) p := fun m hm => by rw [h m hm]; constructor; exact .inl; rintro (h | h); exact h; omega
theorem litTo_next {l : List Int} {s : Int} {r : List Nat} {i j : Nat} {p : Nat → Bool} (h : litTo l s r i j p) (hj : up l (nx r i) s ≤ j) : litTo l s r i (j + 1) (fun k => if k = j then true else p k) := fun m hm => by
  by_cases e : m = j
  · subst e; simp; right; omega
  · simp only [e, if_false]
    rw [h m hm]
    constructor
    · rintro (h | h); exact .inl h; exact .inr (by omega)
    · rintro (h | h); exact .inl h; exact .inr (by omega)
theorem litTo_end {l : List Int} {s : Int} {r : List Nat} {i j : Nat} {p : Nat → Bool} (h : litTo l s r i j p) (hj : dn l (nx r i) s ≤ j) (hj2 : j ≤ max (up l (nx r i) s) (dn l (nx r i) s)) : litBy l s r (i + 1) p := fun m hm => by
  rw [h m hm]
  have := up_hi l (nx r i) s
  have := dn_lo l (nx r i) s
  constructor
  · rintro (⟨k, h1, h2⟩ | h)
    · exact ⟨k, by omega, h2⟩
    · exact ⟨i, by omega, by unfold lit; omega⟩
  · rintro ⟨k, h1, h2⟩
    by_cases e : k = i
    · subst e; right; unfold lit at h2; omega
    · exact .inl ⟨k, by omega, h2⟩
theorem lights_nx {l : List Int} {s : Int} {r : List Nat} : lights l s r ↔ ∀ m, m < l.length → ∃ k, k < r.length ∧ lit l s (nx r k) m := by
  unfold lights
  constructor
  · intro h m hm
    obtain ⟨a, ha, hl⟩ := h m hm
    obtain ⟨k, hk, rfl⟩ := List.getElem_of_mem ha
    exact ⟨k, hk, by simpa [nx, hk] using hl⟩
  · intro h m hm
    obtain ⟨k, hk, hl⟩ := h m hm
    exact ⟨nx r k, by simp [nx, hk], hl⟩

set_option maxRecDepth 100000 in
set_option maxHeartbeats 4000000 in
theorem refLight_any (A A2 : Option Addr) (c c2 : Nat) (L : List (Int × Int)) (s : Int) (la : List Int) (w : World) (hr : RdP w w.heap.size A L) (hl : L.length ≤ 1125899906842624) (hr2 : RdI w w.heap.size A2 la) (hl2 : la.length ≤ 1000000) :
    Calls Try.prog 12 #[.slice A L.length c, .int .i64 s, .slice A2 la.length c2] w fun e w' => e = .returned (.tuple #[.bool (LightB L s la), .int .i64 (gate (vld L) (LightR L s la))]) ∧ Below w.heap.size w w' := by
  have HA := Lib.hid (refasked_any A c L s w hr hl)
  by_cases hg0 : gate (vld L) (btw 0 s 100000) = 0
  · have hv : vld L = true := by
      cases h : vld L
      · rw [h] at hg0; simp [gate] at hg0
      · rfl
    have hs : btw 0 s 100000 = true := by
      cases h : btw 0 s 100000
      · rw [h, hv] at hg0; simp [gate] at hg0
      · rfl
    have hok := okL_of_vld hv
    have h600 := mets_len600 hok
    have HM := Lib.hid (Metres_any A c L w hr hok)
    have hsb := btw_iff.1 hs
    have hR : LightR L s la = riseB la (mets L).length := by unfold LightR; rw [hs]; rfl
    rw [hg0] at HA
    cases hrb : riseB la (mets L).length
    · have hE : gate (vld L) (LightR L s la) = 2 := gate_arg hv (by rw [hR, hrb])
      have hV : LightB L s la = false := by simp [LightB, hE]
      rw [hE, hV]
      have HAS := Lib.hid (fun W (hW : Below w.heap.size w W) => ascends_any A2 c2 la (mets L).length W (hr2.on hW) hl2)
      rw [hrb] at HAS
      clear hr hr2 hg0 hv hs hok hsb hR hrb hE hV
      generalize (mets L).length = n at *
      go_enter Try.func12, Try.ntmps12
      go_wp2_with (first
        | (go_at_call 31; refine HA.out.mono ?_; rintro e w' ⟨rfl, rfl⟩)
        | (go_at_call 32; refine HM.out.mono ?_; rintro e w1 ⟨hB, A', c', rfl, hR⟩; have HR := Lib.hid hR; clear hR)
        | (go_at_call 33; refine (HAS.out _ hB).mono ?_; rintro e w2 ⟨rfl, h2⟩))
      go_ret2
      exact ⟨rfl, hB.trs h2⟩
    · obtain ⟨r, rfl, hrr⟩ := riseB_iff.1 hrb
      have hE : gate (vld L) (LightR L s (natL r)) = 0 := gate_ok hv (by rw [hR, hrb])
      have hnn : ∀ d ∈ mets L, 0 ≤ d := fun d hd => (mets_mem hok d hd).1
      have hV : LightB L s (natL r) = (decide (r.length ≤ 600) && lightF (mets L) s r 0) := by simp [LightB, hE, natL_toNat, natL_len]
      have HNL : Hid ((∃ m, m < (mets L).length ∧ ¬ ∃ k, k < r.length ∧ lit (mets L) s (nx r k) m) → LightB L s (natL r) = false) := Lib.hid (fun h => by
        obtain ⟨m, h1, h2⟩ := h
        rw [hV]
        cases hf : lightF (mets L) s r 0
        · simp
        · exact absurd ((lights_nx.1 ((lightF_lights hnn hsb.1 hrr).1 hf)) m h1) h2)
      have HYL : Hid ((∀ m, m < (mets L).length → ∃ k, k < r.length ∧ lit (mets L) s (nx r k) m) → LightB L s (natL r) = decide (r.length ≤ 600)) := Lib.hid (fun h => by
        rw [hV, (lightF_lights hnn hsb.1 hrr).2 (lights_nx.2 h)]; simp)
      rw [hE]
      have HAS := Lib.hid (fun W (hW : Below w.heap.size w W) => ascends_any A2 c2 (natL r) (mets L).length W (hr2.on hW) hl2)
      rw [hrb] at HAS
      have hix := ix_bounds hok
      have HNX := Lib.hid ((rises_iff r _).1 hrr).1
      have HU := Lib.hid (fun W A' c' a (ha : a ≤ (mets L).length) h => refup_any A' c' (mets L) a s W h hix h600 ha hsb.1 (by omega))
      have HD := Lib.hid (fun W A' c' a (ha : a ≤ (mets L).length) h => refdown_any A' c' (mets L) a s W h hix h600 ha hsb.1 (by omega))
      have HHI := Lib.hid (fun a (ha : a ≤ (mets L).length) => dn_hi (l := mets L) (a := a) (s := s) ha)
      have HUD := Lib.hid (fun a => And.intro (up_hi (mets L) a s) (dn_lo (mets L) a s))
      have HR2 := Lib.hid hr2
      have hcnt := rises_count hrr
      obtain ⟨cs, hmk, hbm⟩ := run_make_bool (P := Try.prog) (T := 57) (t := 4) Try.underlying57 infoBool ((mets L).length : Int) (by omega) (by omega)
      rw [Int.toNat_natCast] at hmk hbm
      rw [truths_no] at hbm
      have HMK := Lib.hid hbm; clear hbm
      have HIXR := Lib.hid (ix_natL r)
      have HZ := Lib.hid (litBy_zero (l := mets L) (s := s) (r := r))
      have HST := Lib.hid (fun i p => litTo_start (l := mets L) (s := s) (r := r) (i := i) (p := p))
      have HNXT := Lib.hid (fun i j p => litTo_next (l := mets L) (s := s) (r := r) (i := i) (j := j) (p := p))
      have HENDL := Lib.hid (fun i j p => litTo_end (l := mets L) (s := s) (r := r) (i := i) (j := j) (p := p))
      have hnl := natL_len r
      generalize hVV : LightB L s (natL r) = V at *
      clear hr hr2 hg0 hv hs hok hR hrb hE hV hVV hnn hix hrr
      rw [hnl] at HAS
      rw [hnl]
      have HNLL := Lib.hid hnl; clear hnl
      generalize hn : (mets L).length = n at *
      have HN := Lib.hid hn; clear hn
      generalize hm : r.length = m at *
      have HMM := Lib.hid hm; clear hm
      go_enter Try.func12, Try.ntmps12
      go_wp2_with (first
        | (go_at_call 31; refine HA.out.mono ?_; rintro e w' ⟨rfl, rfl⟩)
        | (go_at_call 32; refine HM.out.mono ?_; rintro e w1 ⟨hB, A', c', rfl, hR⟩; have HR := Lib.hid hR; clear hR)
        | (go_at_call 33; refine (HAS.out _ hB).mono ?_; rintro e w2 ⟨rfl, h2⟩))
      have HB2 := Lib.hid (hB.trs h2)
      have HRM := Lib.hid (HR.out.on h2)
      have HLA := Lib.hid (HR2.out.on (hB.trs h2))
      have HBX := Lib.hid (HMK.out w2)
      clear h2 hB
      go_loopg [11] m (fun kk u wr => ∃ (i : Nat) (p : Nat → Bool), u = .int .i64 i ∧ i ≤ m ∧ m - i ≤ kk ∧ Hid (litBy (mets L) s r i p) ∧ BoxB wr w2.heap.size 4 (truths p n) ∧ Below w2.heap.size w2 wr)
      case atStart => exact ⟨0, _, rfl, by omega, by omega, HZ, HBX.out, below_alloc _ _⟩
      case round =>
        obtain ⟨i, p, rfl, hi, hkk, hQ, hX, hB⟩ := hrel
        obtain ⟨wo, rfl⟩ : ∃ wo : World, wo = wr := ⟨_, rfl⟩
        have HX := Lib.hid hX
        have HB := Lib.hid hB
        by_cases hlt : i < m
        · obtain ⟨b, o, rfl, hb, q1⟩ := HLA.out.at_ (k := i) (by rw [HNLL.out]; exact hlt)
          rw [← hB.cell hb, HIXR.out] at q1
          have ha := HNX.out i (by first | exact hlt | (rw [HMM.out]; exact hlt))
          have HUa := Lib.hid (fun W hW => HU.out W A' c' (nx r i) ha (HRM.out.on hW))
          have hud := HUD.out (nx r i)
          have hhi := HHI.out (nx r i) ha
          clear hX hB
          have HQS := Lib.hid (HST.out i p hQ.out)
          have HN1 := Lib.hid (fun j p => HNXT.out i j p)
          have HE1 := Lib.hid (fun j p => HENDL.out i j p)
          have HDa := Lib.hid (fun W hW => HD.out W A' c' (nx r i) ha (HRM.out.on hW))
          clear hQ
          generalize hux : up (mets L) (nx r i) s = ux at *
          generalize hdx : dn (mets L) (nx r i) s = dx at *
          clear hux hdx
          generalize hax : nx r i = a at *
          clear hax
          go_wp2_with (go_at_call 34; refine (HUa.out _ HB.out).mono ?_; rintro e w' ⟨rfl, rfl⟩)
          go_loopg [12] (dx + 1) (fun kk v wr => ∃ (j : Nat) (p : Nat → Bool), v = .int .i64 j ∧ ux ≤ j ∧ j ≤ max ux dx ∧ dx + 1 - j ≤ kk ∧ Hid (litTo (mets L) s r i j p) ∧ BoxB wr w2.heap.size 4 (truths p n) ∧ Below w2.heap.size w2 wr)
          case atStart => exact ⟨ux, p, rfl, by omega, by omega, by omega, HQS, HX.out, HB.out⟩
          case round =>
            obtain ⟨j, p2, rfl, hj1, hj2, hjk, hQ2, hX2, hB2⟩ := hrel
            have q2 := (hB2.cell (p := ⟨b, o + i, none⟩) hb).trans ((HB.out.cell (p := ⟨b, o + i, none⟩) hb).symm.trans q1)
            have HX2 := Lib.hid hX2
            have HBB := Lib.hid hB2
            by_cases hjt : j < dx
            · have hjn : (j : Int) < (n : Int) := by omega
              have x1 := hX2.cell (k := j) (by rw [truths_len]; omega)
              have x2 := hX2.frozen j
              clear hX2 hB2 q1
              have HNXX := Lib.hid (HN1.out j p2 hQ2.out hj1)
              clear hQ2
              go_wp2_with (go_at_call 35; refine (HDa.out _ HBB.out).mono ?_; rintro e w' ⟨rfl, rfl⟩)
              go_roundg (dx + 1 - (j + 1))
              case measure => omega
              case rel => exact ⟨j + 1, _, by go_num, by omega, by omega, by omega, HNXX, by rw [← truths_set]; exact HX2.out.set_ j true, HBB.out.setCell (p := ⟨_, _, none⟩) (Nat.le_refl _) _⟩
            · have HEND := Lib.hid (HE1.out j p2 hQ2.out (by omega) hj2)
              clear hX2 hB2 hQ2 q1
              go_wp2_with (go_at_call 35; refine (HDa.out _ HBB.out).mono ?_; rintro e w' ⟨rfl, rfl⟩)
              go_roundg (m - (i + 1))
              case measure => omega
              case rel => exact ⟨i + 1, p2, by go_num, by omega, by omega, HEND, HX2.out, HBB.out⟩
        · obtain rfl : i = m := by omega
          clear hX hB
          have HQ := hQ
          clear hQ
          go_wp2
          go_loopg [13] n (fun kk v wr => ∃ j : Nat, v = .int .i64 j ∧ j ≤ n ∧ n - j ≤ kk ∧ Hid (∀ t, t < j → p t = true) ∧ wo = wr)
          case atStart => exact ⟨0, rfl, by omega, by omega, Lib.hid (fun t ht => by omega), rfl⟩
          case round =>
            obtain ⟨j, rfl, hj, hjk, hT, rfl⟩ := hrel
            by_cases hjt : j < n
            · have hjn : (j : Int) < (n : Int) := by omega
              have x1 := HX.out.cell (k := j) (by rw [truths_len]; exact hjt)
              rw [truths_get _ _ _ hjt] at x1
              cases hpj : p j
              · rw [hpj] at x1
                have HF := Lib.hid (HNL.out ⟨j, by first | exact hjt | (rw [HN.out]; exact hjt), fun hex => by
                  have := (HQ.out j (by first | exact hjt | (rw [HN.out]; exact hjt))).2 (by first | exact hex | (rw [HMM.out] at hex; exact hex))
                  rw [hpj] at this; cases this⟩)
                clear hpj hT
                go_wp2
                go_ret2
                exact ⟨ret_bi HF.out.symm rfl, HB2.out.trs HB.out⟩
              · rw [hpj] at x1
                have HT2 : Hid (∀ t, t < j + 1 → p t = true) := Lib.hid (fun t ht => by
                  rcases Nat.lt_succ_iff_lt_or_eq.1 ht with h | rfl
                  · exact hT.out t h
                  · exact hpj)
                clear hpj hT
                go_wp2
                go_roundg (n - (j + 1))
                case measure => omega
                case rel => exact ⟨j + 1, by go_num, by omega, by omega, HT2, rfl⟩
            · obtain rfl : j = n := by omega
              have HF := Lib.hid (HYL.out (fun k hk => by
                have := (HQ.out k (by first | exact hk | (rw [HN.out]; exact hk))).1 (hT.out k (by first | exact hk | (rw [← HN.out]; exact hk)))
                first | exact this | (rw [HMM.out]; exact this)))
              clear hT
              by_cases h6 : i ≤ 600
              · have h6i : (i : Int) ≤ 600 := by omega
                go_wp2
                go_ret2
                exact ⟨ret_bi (by rw [HF.out]; simp; omega) rfl, HB2.out.trs HB.out⟩
              · have h6i : ¬ (i : Int) ≤ 600 := by omega
                go_wp2
                go_ret2
                exact ⟨ret_bi (by rw [HF.out]; simp; omega) rfl, HB2.out.trs HB.out⟩
  · have hE : gate (vld L) (LightR L s la) = gate (vld L) (btw 0 s 100000) := by
      unfold LightR; unfold gate at hg0 ⊢
      cases hv : vld L <;> cases hs : btw 0 s 100000 <;> simp [hv, hs] at hg0 ⊢
    have hV : LightB L s la = false := by simp [LightB, hE, hg0]
    rw [hE, hV]
    have hne : ¬ gate (vld L) (btw 0 s 100000) = 0 := hg0
    generalize gate (vld L) (btw 0 s 100000) = er at *
    clear hr hr2 hE hV hg0
    go_enter Try.func12, Try.ntmps12
    go_wp2_with (go_at_call 31; refine HA.out.mono ?_; rintro e w' ⟨rfl, rfl⟩)
    go_ret2
    exact ⟨rfl, Below.refl _ _⟩
end Go.Proofs.Ytbocedbonaeohaa
