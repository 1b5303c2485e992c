/- Walks over package ice: Light and AreDark. -/
import Derived.Test.YtbocedbonaeohaaIceR
namespace Go.Proofs.Ytbocedbonaeohaa
set_option linter.unusedVariables false
open Go.RowKit

set_option maxHeartbeats 1000000 in
theorem Light1_any (A A2 : Option Addr) (n c c2 b1 b2 : Nat) (s : Int) (la : List Int) (w : World) (hn : n ≤ 1000) (hc1 : w.cell? ⟨b1, 0, none⟩ = some (.int .i64 s)) (hc2 : w.cell? ⟨b2, 0, none⟩ = some (.slice A2 la.length c2)) (hr : RdI w w.heap.size A2 la) (hl : la.length ≤ 1000000) :
    Calls Try.prog 24 #[.slice A (n + 1) c, .pointer (some ⟨b1, 0, none⟩), .pointer (some ⟨b2, 0, none⟩)] w fun e w' => e = .returned (.bool (btw 0 s 100000 && riseB la n)) ∧ Below w.heap.size w w' := by
  have HD := Lib.hid (fun W => depth_any A (n + 1) c W (by omega))
  rw [show (((n + 1 : Nat) : Int) - 1) = (n : Int) by omega] at HD
  have HS := Lib.hid (fun W => isStrength_any s W)
  have HR := Lib.hid (fun (m : Nat) => rise_any A2 c2 la n (w.drewN m) (hr.on ((Below.refl _ _).drewsN m)) hl)
  generalize riseB la n = r at *
  clear hr
  generalize la.length = q at *
  cases hb : btw 0 s 100000
  all_goals
    rw [hb] at HS
    clear hb
    go_enter Try.func24, Try.ntmps24
    go_wp2_with fail
    go_quiet ((first
      | (go_at_call 27; exact quiet_left (HD.out _))
      | (go_at_call 25; exact quiet_left (HS.out _))
      | (go_at_call 26; exact quiet_left (HR.out _))))
    go_wp2_with fail
    go_ret
    exact ⟨rfl, (Below.refl _ _).drewsN _⟩

set_option maxHeartbeats 1000000 in
theorem AreDark1_any (A A2 : Option Addr) (n c c2 b1 b2 : Nat) (s : Int) (la : List Int) (w : World) (hn : n ≤ 1000) (hc1 : w.cell? ⟨b1, 0, none⟩ = some (.int .i64 s)) (hc2 : w.cell? ⟨b2, 0, none⟩ = some (.slice A2 la.length c2)) (hr : RdI w w.heap.size A2 la) (hl : la.length ≤ 1000000) :
    Calls Try.prog 30 #[.slice A (n + 1) c, .pointer (some ⟨b1, 0, none⟩), .pointer (some ⟨b2, 0, none⟩)] w fun e w' => e = .returned (.bool (btw 0 s 100000 && riseB la ((n : Int) - 1))) ∧ Below w.heap.size w w' := by
  have HD := Lib.hid (fun W => depth_any A (n + 1) c W (by omega))
  rw [show (((n + 1 : Nat) : Int) - 1) = (n : Int) by omega] at HD
  have HS := Lib.hid (fun W => isStrength_any s W)
  have HR := Lib.hid (fun (m : Nat) => rise_any A2 c2 la ((n : Int) - 1) (w.drewN m) (hr.on ((Below.refl _ _).drewsN m)) hl)
  have hw : IntKind.i64.wrap ((n : Int) - 1) = (n : Int) - 1 := IntWalk.i64_in _ (by omega)
  generalize riseB la ((n : Int) - 1) = r at *
  clear hr
  generalize la.length = q at *
  cases hb : btw 0 s 100000
  all_goals
    rw [hb] at HS
    clear hb
    go_enter Try.func30, Try.ntmps30
    go_wp2_with fail
    go_quiet ((first
      | (go_at_call 27; exact quiet_left (HD.out _))
      | (go_at_call 25; exact quiet_left (HS.out _))
      | (go_at_call 26; exact quiet_left (HR.out _))))
    go_wp2_with fail
    go_ret
    exact ⟨rfl, (Below.refl _ _).drewsN _⟩

theorem natL_toNat (r : List Nat) : (natL r).map Int.toNat = r := by
  unfold natL; rw [List.map_map]
  have : (Int.toNat ∘ fun (x : Nat) => (x : Int)) = id := by funext x; simp
  rw [this, List.map_id]
theorem lightF_step {l : List Int} {s : Int} {r : List Nat} {i d : Nat} (hi : i < r.length) : lightF l s (r.drop i) d = if d < up l (nx r i) s then false else lightF l s (r.drop (i + 1)) (max d (dn l (nx r i) s)) := by
  rw [List.drop_eq_getElem_cons hi]
  simp [lightF, nx, hi]
theorem lightF_end {l : List Int} {s : Int} {r : List Nat} {d : Nat} : lightF l s (r.drop r.length) d = decide (d = l.length) := by
  rw [List.drop_length]; rfl

def LightR (L : List (Int × Int)) (s : Int) (la : List Int) : Bool := btw 0 s 100000 && riseB la (mets L).length
def LightB (L : List (Int × Int)) (s : Int) (la : List Int) : Bool := decide (gate (vld L) (LightR L s la) = 0) && decide (la.length ≤ 600) && lightF (mets L) s (la.map Int.toNat) 0

set_option maxRecDepth 100000 in
set_option maxHeartbeats 4000000 in
theorem Light_any (A A2 : Option Addr) (c c2 : Nat) (L : List (Int × Int)) (s : Int) (la : List Int) (w : World) (hr : RdP w w.heap.size A L) (hl : L.length ≤ 1125899906842624) (hr2 : RdI w w.heap.size A2 la) (hl2 : la.length ≤ 1000000) :
    Calls Try.prog 10 #[.slice A L.length c, .int .i64 s, .slice A2 la.length c2] w fun e w' => e = .returned (.tuple #[.bool (LightB L s la), .int .i64 (gate (vld L) (LightR L s la))]) ∧ Below w.heap.size w w' := by
  have hB0 : Below w.heap.size w ((w.alloc (.cells #[.int .i64 s] 3)).alloc (.cells #[.slice A2 la.length c2] 23)) := (below_alloc _ _).trs (below_alloc _ _)
  have HO := Lib.hid (opened_any 24 #[.pointer (some ⟨w.heap.size, 0, none⟩), .pointer (some ⟨w.heap.size + 1, 0, none⟩)] A c L (LightR L s la) _ (hr.on hB0) hl (enters_of Try.func24 (by kernel_rfl) rfl) (by
    intro hv W A' c' hB hR
    have h600 := mets_len600 (okL_of_vld hv)
    rw [cum_length]
    exact Light1_any A' A2 (mets L).length c' c2 w.heap.size (w.heap.size + 1) s la W (by omega) (keep21 hB) (keep22 hB) ((hr2.on hB0).on hB) hl2))
  have HG : Hid (gate (vld L) (LightR L s la) ≠ 0 → LightB L s la = false) := Lib.hid (fun h => by simp [LightB, h])
  have HD : Hid (vld L = true → LightR L s la = true → gate (vld L) (LightR L s la) = 0 ∧ ∃ r : List Nat, la = natL r ∧ rises r (mets L).length ∧ LightB L s la = (decide (la.length ≤ 600) && lightF (mets L) s (r.drop 0) 0) ∧ (mets L).length ≤ 600 ∧
      (∀ W A' c' (a : Nat), a ≤ (mets L).length → RdI W W.heap.size A' (cum (mets L)) → Calls Try.prog 28 #[.slice A' (cum (mets L)).length c', .int .i64 a, .int .i64 s] W fun e w' => e = .returned (.int .i64 (up (mets L) a s)) ∧ Below W.heap.size W w') ∧
      (∀ W A' c' (a : Nat), a ≤ (mets L).length → RdI W W.heap.size A' (cum (mets L)) → Calls Try.prog 29 #[.slice A' (cum (mets L)).length c', .int .i64 a, .int .i64 s] W fun e w' => e = .returned (.int .i64 (dn (mets L) a s)) ∧ Below W.heap.size W w') ∧
      (∀ W A' c', Calls Try.prog 27 #[.slice A' (cum (mets L)).length c'] W fun e w' => e = .returned (.int .i64 (mets L).length) ∧ W = w') ∧ (∀ a, a ≤ (mets L).length → dn (mets L) a s ≤ (mets L).length)) := Lib.hid (fun hv hR => by
    have hok := okL_of_vld hv
    have h600 := mets_len600 hok
    have hg : gate (vld L) (LightR L s la) = 0 := gate_ok hv hR
    have hR' := hR
    unfold LightR at hR'
    rw [Bool.and_eq_true, btw_iff] at hR'
    obtain ⟨r, rfl, hrr⟩ := riseB_iff.1 hR'.2
    refine ⟨hg, r, rfl, hrr, by simp [LightB, hg, natL_toNat], h600, fun W A' c' a ha h => up_any A' c' (mets L) a s W h (mets_mem hok) h600 ha (by omega), fun W A' c' a ha h => down_any A' c' (mets L) a s W h (mets_mem hok) h600 ha (by omega) (by omega), fun W A' c' => ?_, fun a ha => dn_hi ha⟩
    have := depth_any A' (cum (mets L)).length c' W (by rw [cum_length]; omega)
    rw [show (((cum (mets L)).length : Nat) : Int) - 1 = ((mets L).length : Int) by rw [cum_length]; omega] at this
    exact this)
  have HR2 := Lib.hid (hr2.on hB0)
  clear hr hr2
  generalize hLB : LightB L s la = V at *
  clear hLB
  by_cases h6 : la.length ≤ 600
  · have h6i : ¬ (600 : Int) < (la.length : Int) := by omega
    go_enter Try.func10, Try.ntmps10
    go_wp2_with (go_at_call 23; refine HO.out.mono ?_; rintro e w1 ⟨hB, h⟩; have k1 := keep21 hB; have k2 := keep22 hB; rcases h with ⟨hg, rfl⟩ | ⟨hv, hrt, A', c', rfl, hR⟩)
    · go_ret2
      exact ⟨ret_bi (HG.out hg).symm rfl, hB0.trs hB⟩
    · obtain ⟨hg, r, hla, hrr, hV, h600, hU, hD, hDE, hHI⟩ := HD.out hv hrt
      have HGG := Lib.hid hg
      have hlen : la.length = r.length := by rw [hla, natL_len]
      have HV : Hid (V = lightF (mets L) s (r.drop 0) 0) := Lib.hid (by rw [hV, show decide (la.length ≤ 600) = true by simpa using h6]; rfl)
      have HIX : Hid (∀ k, ix la k = (nx r k : Int)) := Lib.hid (fun k => by rw [hla]; exact ix_natL r k)
      have HNX := Lib.hid ((rises_iff r _).1 hrr).1
      have HU := Lib.hid hU; have HDD := Lib.hid hD; have HDE := Lib.hid hDE; have HHI := Lib.hid hHI
      have HR1 := Lib.hid (HR2.out.on hB)
      have HR := Lib.hid hR
      have HB1 := Lib.hid (hB0.trs hB)
      have hsz : w.heap.size + 1 < w1.heap.size := by have := hB.size; simp at this; omega
      have HST := Lib.hid (fun i d => lightF_step (l := mets L) (s := s) (r := r) (i := i) (d := d))
      have HEN := Lib.hid (fun d => lightF_end (l := mets L) (s := s) (r := r) (d := d))
      have K12 := Lib.hid (And.intro k1 k2)
      clear HD HG HO hg hla hrr hV hU hD hDE hHI hR hv hrt hB hB0 HR2 k1 k2
      generalize (cum (mets L)).length = q at *
      generalize hn : (mets L).length = n at *
      have HN := Lib.hid hn; clear hn
      generalize hm : la.length = m at *
      have HM := Lib.hid hm; clear hm
      have HML := Lib.hid hlen; clear hlen
      go_loopg [29, 10] m (fun kk u v wr => ∃ i d : Nat, u = .int .i64 i ∧ v = .int .i64 d ∧ i ≤ m ∧ d ≤ n ∧ m - i ≤ kk ∧ Hid (V = lightF (mets L) s (r.drop i) d) ∧ Below w1.heap.size w1 wr)
      case atStart => exact ⟨0, 0, rfl, rfl, by omega, by omega, by omega, HV, Below.refl _ _⟩
      case round =>
        obtain ⟨i, d, rfl, rfl, hi, hd, hkk, hQ, hB⟩ := hrel
        have j1 := (hB.cell (p := ⟨w.heap.size, 0, none⟩) (by simp only; omega)).trans K12.out.1
        have hszr : w.heap.size + 1 < wr.heap.size := Nat.lt_of_lt_of_le hsz hB.size
        have HB := Lib.hid hB
        by_cases hlt : i < m
        · obtain ⟨b, o, rfl, hb, q1⟩ := HR1.out.at_ (k := i) (by rw [HM.out]; exact hlt)
          rw [← hB.cell hb, HIX.out] at q1
          have hst := HST.out i d (by rw [← HML.out]; exact hlt)
          rw [← hQ.out] at hst
          have ha := HNX.out i (by rw [← HML.out]; exact hlt)
          have HUa := Lib.hid (fun W hW => HU.out W A' c' (nx r i) ha (HR.out.on hW))
          have HDa := Lib.hid (fun W hW => HDD.out W A' c' (nx r i) ha (HR.out.on hW))
          have hdn := HHI.out (nx r i) ha
          clear hB hQ
          by_cases hup : d < up (mets L) (nx r i) s
          · rw [if_pos hup] at hst
            have HST2 := Lib.hid hst; clear hst
            generalize up (mets L) (nx r i) s = u at *
            generalize dn (mets L) (nx r i) s = v at *
            generalize nx r i = a at *
            go_wp2_with (go_at_call 28; refine (HUa.out _ HB.out).mono ?_; rintro e w2 ⟨rfl, h2⟩)
            go_ret2
            exact ⟨ret_bi HST2.out.symm HGG.out.symm, (HB1.out.trs HB.out).trs h2⟩
          · rw [if_neg hup] at hst
            have HST2 := Lib.hid hst; clear hst
            have hmx : ∀ x y : Nat, max x y ≤ n ∨ ¬ (x ≤ n ∧ y ≤ n) := fun x y => by omega
            have HMX := Lib.hid (show max d (dn (mets L) (nx r i) s) ≤ n by omega)
            clear hmx
            generalize up (mets L) (nx r i) s = u at *
            generalize dn (mets L) (nx r i) s = v at *
            generalize nx r i = a at *
            go_wp2_with (first
              | (go_at_call 28; refine (HUa.out _ HB.out).mono ?_; rintro e w2 ⟨rfl, h2⟩; have hB2 := HB.out.trs h2; have j2 := (h2.cell (p := ⟨w.heap.size, 0, none⟩) (by simp only; omega)).trans j1)
              | (go_at_call 29; refine (HDa.out _ hB2).mono ?_; rintro e w3 ⟨rfl, h3⟩))
            all_goals
              go_roundg (m - (i + 1))
              case measure => omega
              case rel => exact ⟨i + 1, max d v, by go_num, congrArg (Value.int IntKind.i64) (by omega), by omega, HMX.out, by omega, HST2, hB2.trs h3⟩
        · obtain rfl : i = m := by omega
          have hen := HEN.out d
          rw [← HML.out, ← hQ.out] at hen
          have HE := Lib.hid hen; clear hen hQ hB
          go_wp2_with (go_at_call 27; refine (HDE.out _ _ _).mono ?_; rintro e w' ⟨rfl, rfl⟩)
          go_ret2
          exact ⟨ret_bi (by rw [HE.out, Bool.eq_iff_iff]; simp; omega) HGG.out.symm, HB1.out.trs HB.out⟩
  · have h6i : (600 : Int) < (la.length : Int) := by omega
    have HG2 : Hid (vld L = true → LightR L s la = true → V = false ∧ gate (vld L) (LightR L s la) = 0) := Lib.hid (fun hv hR => by
      obtain ⟨h1, r, _, _, h2, _⟩ := HD.out hv hR
      exact ⟨by rw [h2, show decide (la.length ≤ 600) = false by simpa using h6]; rfl, h1⟩)
    clear HD
    go_enter Try.func10, Try.ntmps10
    go_wp2_with (go_at_call 23; refine HO.out.mono ?_; rintro e w1 ⟨hB, h⟩; have k1 := keep21 hB; have k2 := keep22 hB; rcases h with ⟨hg, rfl⟩ | ⟨hv, hrt, A', c', rfl, hR⟩)
    · go_ret2
      exact ⟨ret_bi (HG.out hg).symm rfl, hB0.trs hB⟩
    · have h2 := HG2.out hv hrt
      go_ret2
      exact ⟨ret_bi h2.1.symm h2.2.symm, hB0.trs hB⟩
end Go.Proofs.Ytbocedbonaeohaa
