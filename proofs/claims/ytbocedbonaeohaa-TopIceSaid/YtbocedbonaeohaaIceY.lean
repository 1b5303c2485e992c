/- Plain law: what it says of lamps and dark places that the program tells of them. -/
import Derived.Test.YtbocedbonaeohaaIceX
namespace Go.Proofs.Ytbocedbonaeohaa
set_option linter.unusedVariables false
open Go.RowKit

theorem mets_nn {L : List (Int × Int)} (hv : vld L = true) : ∀ d ∈ mets L, 0 ≤ d := fun d hd => (mets_mem (okL_of_vld hv) d hd).1
theorem light_facts {L : List (Int × Int)} {s : Int} {la : List Int} (hv : vld L = true) (h : LightB L s la = true) : gate (vld L) (LightR L s la) = 0 ∧ 0 ≤ s ∧ s ≤ 100000 ∧ ∃ r, la = natL r ∧ rises r (mets L).length ∧ lights (mets L) s r := by
  have h' := h
  unfold LightB at h'
  simp only [Bool.and_eq_true, decide_eq_true_eq] at h'
  obtain ⟨⟨hg, _⟩, hf⟩ := h'
  have hR : LightR L s la = true := by
    cases hR : LightR L s la
    · rw [gate_arg hv hR] at hg; cases hg
    · rfl
  have hR' := hR
  unfold LightR at hR'
  rw [Bool.and_eq_true, btw_iff] at hR'
  obtain ⟨r, rfl, hrr⟩ := riseB_iff.1 hR'.2
  rw [natL_toNat] at hf
  exact ⟨hg, hR'.1.1, hR'.1.2, r, rfl, hrr, (lightF_lights (mets_nn hv) hR'.1.1 hrr).1 hf⟩
theorem dark_facts {L : List (Int × Int)} {s : Int} {la : List Int} (hv : vld L = true) (h : DarkB L s la = true) : gate (vld L) (DarkR L s la) = 0 ∧ 0 ≤ s ∧ s ≤ 100000 ∧ ∃ r, la = natL r ∧ rises r ((mets L).length - 1) ∧ darks (mets L) s r := by
  have h' := h
  unfold DarkB at h'
  simp only [Bool.and_eq_true, decide_eq_true_eq] at h'
  obtain ⟨hg, hf⟩ := h'
  have hR : DarkR L s la = true := by
    cases hR : DarkR L s la
    · rw [gate_arg hv hR] at hg; cases hg
    · rfl
  obtain ⟨h0, h1, r, rfl, hrr, hV⟩ := dark_nat hv hR
  rw [natL_toNat] at hf
  exact ⟨hg, h0, h1, r, rfl, hrr, (darkB_iff (mets_nn hv) h0 hrr (vld_ne hv)).1 hf⟩
theorem fstI_natL (K : List (Nat × Nat)) : fstI K = natL (K.map (·.1)) := by unfold fstI natL; rw [List.map_map]; rfl
theorem sndI_natL (K : List (Nat × Nat)) : sndI K = natL (K.map (·.2)) := by unfold sndI natL; rw [List.map_map]; rfl
/-- the lamps light the ice -/
theorem lamps_light {L : List (Int × Int)} {s : Int} {K : List (Nat × Nat)} (hv : vld L = true) (hs : btw 0 s 100000 = true) (hK : lampsO (mets L) s = some K) : gate (vld L) (LightR L s (fstI K)) = 0 ∧ LightB L s (fstI K) = true := by
  have hsb := btw_iff.1 hs
  have hok := okL_of_vld hv
  have h600 := mets_len600 hok
  have g := lampsO_greedy hK
  have hlen := lampsO_len hK
  have hR : LightR L s (fstI K) = true := by
    unfold LightR
    rw [hs, fstI_natL, riseB_iff.2 ⟨_, rfl, g.rises1.1⟩]; rfl
  have hg : gate (vld L) (LightR L s (fstI K)) = 0 := gate_ok hv hR
  refine ⟨hg, ?_⟩
  unfold LightB
  rw [hg, fstI_natL, natL_toNat, (lightF_lights (mets_nn hv) hsb.1 g.rises1.1).2 (fun m hm => g.lights (mets_nn hv) hsb.1 m (by omega) hm)]
  simp [natL_len]; omega
/-- the dark places are ones -/
theorem darks_dark {L : List (Int × Int)} {s : Int} {K : List (Nat × Nat)} (hv : vld L = true) (hs : btw 0 s 100000 = true) (hK : lampsO (mets L) s = some K) : gate (vld L) (DarkR L s (sndI K)) = 0 ∧ DarkB L s (sndI K) = true := by
  have hsb := btw_iff.1 hs
  have hne := vld_ne hv
  have g := lampsO_greedy hK
  have hR : DarkR L s (sndI K) = true := by
    unfold DarkR
    rw [hs, sndI_natL, show ((mets L).length : Int) - 1 = (((mets L).length - 1 : Nat) : Int) by omega, riseB_iff.2 ⟨_, rfl, g.rises2.1⟩]; rfl
  have hg : gate (vld L) (DarkR L s (sndI K)) = 0 := gate_ok hv hR
  refine ⟨hg, ?_⟩
  unfold DarkB
  rw [hg, sndI_natL, natL_toNat, (darkB_iff (mets_nn hv) hsb.1 g.rises2.1 hne).2 (g.darks (mets_nn hv) hsb.1)]
  rfl
/-- no light where a metre takes more than the strength -/
theorem light_none {L : List (Int × Int)} {s : Int} {la : List Int} (hv : vld L = true) (hn : lampsO (mets L) s = none) : LightB L s la = false := by
  cases h : LightB L s la
  · rfl
  · obtain ⟨_, h0, _, r, _, hr, hl⟩ := light_facts hv h
    obtain ⟨k, hk, hlt⟩ := (lampsO_none_iff (mets_nn hv) h0).1 hn
    obtain ⟨a, ha, hla⟩ := hl k hk
    have := lit_le (mets_nn hv) h0 (rises_le hr a ha) hk hla
    omega
theorem light_bad {L : List (Int × Int)} {s : Int} {la : List Int} (hs : btw 0 s 100000 = false) : LightB L s la = false := by
  unfold LightB LightR gate
  rw [hs]
  cases vld L <;> simp
/-- lights are no fewer than the lamps, dark places no more, dark places no more than lights -/
theorem light_more {L : List (Int × Int)} {s : Int} {la : List Int} {K : List (Nat × Nat)} (hv : vld L = true) (hK : lampsO (mets L) s = some K) (h : LightB L s la = true) : K.length ≤ la.length := by
  obtain ⟨_, h0, _, r, rfl, hr, hl⟩ := light_facts hv h
  have := greedy_le (mets_nn hv) h0 (lampsO_greedy hK) (rises_le hr) hl
  rw [natL_len]; exact this
theorem dark_less {L : List (Int × Int)} {s : Int} {la : List Int} {K : List (Nat × Nat)} (hv : vld L = true) (hK : lampsO (mets L) s = some K) (h : DarkB L s la = true) : la.length ≤ K.length := by
  obtain ⟨_, h0, _, r, rfl, hr, hd⟩ := dark_facts hv h
  have g := lampsO_greedy hK
  have hne := vld_ne hv
  have := darks_le (mets_nn hv) h0 r (K.map (·.1)) hr hd (rises_le g.rises1.1) (fun p hp => g.lights (mets_nn hv) h0 p (by omega) (by have := rises_le hr p hp; omega))
  rw [natL_len]; simpa using this
theorem dark_light {L : List (Int × Int)} {s : Int} {la da : List Int} (hv : vld L = true) (h : LightB L s la = true) (hd : DarkB L s da = true) : da.length ≤ la.length := by
  obtain ⟨_, h0, _, r, rfl, hr, hl⟩ := light_facts hv h
  obtain ⟨_, _, _, r', rfl, hr', hd'⟩ := dark_facts hv hd
  have hne := vld_ne hv
  have := darks_le (mets_nn hv) h0 r' r hr' hd' (rises_le hr) (fun p hp => hl p (by have := rises_le hr' p hp; omega))
  rw [natL_len, natL_len]; exact this
end Go.Proofs.Ytbocedbonaeohaa
