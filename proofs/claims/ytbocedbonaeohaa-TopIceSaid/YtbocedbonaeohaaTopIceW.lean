/- The walk of TopIce. -/
import Derived.Test.YtbocedbonaeohaaIceY
import Derived.Test.YtbocedbonaeohaaIceLaw6
import Derived.Test.YtbocedbonaeohaaIceOthersW
import Derived.Test.YtbocedbonaeohaaIceU
import Derived.Test.YtbocedbonaeohaaIceV
import Derived.Test.YtbocedbonaeohaaTopIce1
import Derived.Test.YtbocedbonaeohaaTopIce2
import Derived.Test.YtbocedbonaeohaaTopIce3
import Derived.Test.YtbocedbonaeohaaTopIce4
namespace Go.Proofs.Ytbocedbonaeohaa
set_option linter.unusedVariables false
open Go.RowKit

set_option maxRecDepth 100000 in
set_option maxHeartbeats 16000000 in
theorem TopIce_gen (w : World) (A : Option Addr) (q c : Nat) (s er g h m1 : Int) (lt ar : Bool) (A0 A1 : Option Addr) (n0 c0 n1 c1 m : Nat) (lam dk : List Int) (T : List (Int × Int))
    (hq : ¬ (60 : Int) < (q : Int)) (hs0 : 0 ≤ s) (hs1 : s ≤ 100000) (hn0 : n0 ≤ 700) (hn1 : n1 ≤ 700) (hm : m ≤ 600) (hm1 : (m : Int) - 1 = m1)
    (hg : (lt = true ∧ g = 0) ∨ (lt = false ∧ g = 0) ∨ (lt = false ∧ g = 2)) (hh : (ar = true ∧ h = 0) ∨ (ar = false ∧ h = 0) ∨ (ar = false ∧ h = 2))
    (k1 : er = 0 → lt = true → m ≤ n0) (k2 : er = 0 → ar = true → n1 ≤ m) (k3 : lt = true → ar = true → n1 ≤ n0)
    (hc : (er = 5 ∧ m = 0 ∧ lt = false) ∨ (er = 0 ∧ 1 ≤ m))
    (HV : ∀ W : World, Below (w.alloc (.cells #[.slice A0 n0 c0, .slice A1 n1 c1] 24)).heap.size (w.alloc (.cells #[.slice A0 n0 c0, .slice A1 n1 c1] 24)) W → Calls Try.prog 5 #[.slice A q c] W fun e w' => e = .returned (.bool true) ∧ W = w')
    (HT : ∀ W : World, Below (w.alloc (.cells #[.slice A0 n0 c0, .slice A1 n1 c1] 24)).heap.size (w.alloc (.cells #[.slice A0 n0 c0, .slice A1 n1 c1] 24)) W → Calls Try.prog 7 #[.slice A q c] W fun e w' => ∃ A' c', e = .returned (.tuple #[.slice A' q c', .int .i64 0]) ∧ Below W.heap.size W w' ∧ Hid (RdP w' w'.heap.size A' T))
    (H1 : ∀ W : World, Below (w.alloc (.cells #[.slice A0 n0 c0, .slice A1 n1 c1] 24)).heap.size (w.alloc (.cells #[.slice A0 n0 c0, .slice A1 n1 c1] 24)) W → Calls Try.prog 8 #[.slice A q c, .int .i64 s] W fun e w' => ∃ A' c', e = .returned (.tuple #[.slice A' m c', .int .i64 er]) ∧ Below W.heap.size W w' ∧ Hid (RdI w' w'.heap.size A' lam))
    (HB : ∀ (W : World) A' c', Below (w.alloc (.cells #[.slice A0 n0 c0, .slice A1 n1 c1] 24)).heap.size (w.alloc (.cells #[.slice A0 n0 c0, .slice A1 n1 c1] 24)) W → RdP W W.heap.size A' T → Calls Try.prog 8 #[.slice A' q c', .int .i64 s] W fun e w' => ∃ A' c', e = .returned (.tuple #[.slice A' m c', .int .i64 er]) ∧ Below W.heap.size W w')
    (H2 : ∀ W : World, Below (w.alloc (.cells #[.slice A0 n0 c0, .slice A1 n1 c1] 24)).heap.size (w.alloc (.cells #[.slice A0 n0 c0, .slice A1 n1 c1] 24)) W → Calls Try.prog 9 #[.slice A q c, .int .i64 s] W fun e w' => ∃ A' c', e = .returned (.tuple #[.slice A' m c', .int .i64 er]) ∧ Below W.heap.size W w' ∧ Hid (RdI w' w'.heap.size A' dk))
    (H3 : ∀ W : World, Below (w.alloc (.cells #[.slice A0 n0 c0, .slice A1 n1 c1] 24)).heap.size (w.alloc (.cells #[.slice A0 n0 c0, .slice A1 n1 c1] 24)) W → Calls Try.prog 10 #[.slice A q c, .int .i64 s, .slice A0 n0 c0] W fun e w' => e = .returned (.tuple #[.bool lt, .int .i64 g]) ∧ Below W.heap.size W w')
    (H4 : ∀ W : World, Below (w.alloc (.cells #[.slice A0 n0 c0, .slice A1 n1 c1] 24)).heap.size (w.alloc (.cells #[.slice A0 n0 c0, .slice A1 n1 c1] 24)) W → Calls Try.prog 11 #[.slice A q c, .int .i64 s, .slice A1 n1 c1] W fun e w' => e = .returned (.tuple #[.bool ar, .int .i64 h]) ∧ Below W.heap.size W w')
    (H5 : er = 0 → ∀ (W : World) A' c', Below (w.alloc (.cells #[.slice A0 n0 c0, .slice A1 n1 c1] 24)).heap.size (w.alloc (.cells #[.slice A0 n0 c0, .slice A1 n1 c1] 24)) W → RdI W W.heap.size A' lam → Calls Try.prog 12 #[.slice A q c, .int .i64 s, .slice A' m c'] W fun e w' => e = .returned (.tuple #[.bool true, .int .i64 0]) ∧ Below W.heap.size W w')
    (H6 : er = 0 → ∀ (W : World) A' c', Below (w.alloc (.cells #[.slice A0 n0 c0, .slice A1 n1 c1] 24)).heap.size (w.alloc (.cells #[.slice A0 n0 c0, .slice A1 n1 c1] 24)) W → RdI W W.heap.size A' dk → Calls Try.prog 13 #[.slice A q c, .int .i64 s, .slice A' m c'] W fun e w' => e = .returned (.tuple #[.bool true, .int .i64 0]) ∧ Below W.heap.size W w')
    (H7 : er = 0 → ∀ W : World, Below (w.alloc (.cells #[.slice A0 n0 c0, .slice A1 n1 c1] 24)).heap.size (w.alloc (.cells #[.slice A0 n0 c0, .slice A1 n1 c1] 24)) W → Calls Try.prog 14 #[.slice A q c, .int .i64 m] W fun e w' => ∃ le : Int, e = .returned (.tuple #[.int .i64 le, .int .i64 0]) ∧ decide (s < le) = false ∧ Below W.heap.size W w')
    (H8 : er = 0 → ∀ W : World, Below (w.alloc (.cells #[.slice A0 n0 c0, .slice A1 n1 c1] 24)).heap.size (w.alloc (.cells #[.slice A0 n0 c0, .slice A1 n1 c1] 24)) W → 1 < m → Calls Try.prog 14 #[.slice A q c, .int .i64 m1] W fun e w' => ∃ mo : Int, e = .returned (.tuple #[.int .i64 mo, .int .i64 0]) ∧ decide (s < mo) = true ∧ Below W.heap.size W w') :
    Calls Try.prog 3 #[.slice A q c, .int .i64 s, .agg #[.slice A0 n0 c0, .slice A1 n1 c1]] w fun e w' => e = .returned (.bool true) ∧ Below w.heap.size w w' := by
  have go : ∀ (q1 : Prop), True := fun _ => trivial
  clear go
  rcases hc with hc | hc
  · have hg' : g = 0 ∨ g = 2 := by
      obtain ⟨_, _, hl⟩ := hc
      rcases hg with ⟨hx, _⟩ | ⟨_, rfl⟩ | ⟨_, rfl⟩
      · rw [hl] at hx; cases hx
      · exact .inl rfl
      · exact .inr rfl
    exact TopIce_p1 w A q c s er g h m1 lt ar A0 A1 n0 c0 n1 c1 m lam dk T hq hs0 hs1 hn0 hn1 hm hm1 hg' hh k1 k2 k3 hc HV HT H1 HB H2 H3 H4 H5 H6 H7 H8
  · rcases hg with hg | hg | hg
    · exact TopIce_p2 w A q c s er g h m1 lt ar A0 A1 n0 c0 n1 c1 m lam dk T hq hs0 hs1 hn0 hn1 hm hm1 hg hh k1 k2 k3 hc HV HT H1 HB H2 H3 H4 H5 H6 H7 H8
    · exact TopIce_p3 w A q c s er g h m1 lt ar A0 A1 n0 c0 n1 c1 m lam dk T hq hs0 hs1 hn0 hn1 hm hm1 hg hh k1 k2 k3 hc HV HT H1 HB H2 H3 H4 H5 H6 H7 H8
    · exact TopIce_p4 w A q c s er g h m1 lt ar A0 A1 n0 c0 n1 c1 m lam dk T hq hs0 hs1 hn0 hn1 hm hm1 hg hh k1 k2 k3 hc HV HT H1 HB H2 H3 H4 H5 H6 H7 H8

set_option maxRecDepth 100000 in
set_option maxHeartbeats 4000000 in
theorem TopIce_walk (w : World) (A : Option Addr) (c : Nat) (L : List (Int × Int)) (hr : RdP w w.heap.size A L) (_hm : L.length ≤ maxLen) (s : Int) (A0 : Option Addr) (c0 : Nat) (l0 : List Int) (A1 : Option Addr) (c1 : Nat) (l1 : List Int)
    (hr0 : l0.length ≤ maxLen ∧ RdI w w.heap.size A0 l0 ∧ ∀ x ∈ l0, (Lit.int .i64 x).wf = true) (hr1 : l1.length ≤ maxLen ∧ RdI w w.heap.size A1 l1 ∧ ∀ x ∈ l1, (Lit.int .i64 x).wf = true) :
    Calls Try.prog 3 #[.slice A L.length c, .int .i64 s, .agg #[.slice A0 l0.length c0, .slice A1 l1.length c1]] w fun e w' => e = .returned (.bool true) ∧ Below w.heap.size w w' := by
  have hB0 := below_alloc w (.cells #[.slice A0 l0.length c0, .slice A1 l1.length c1] 24)
  have mx0 : (l0.length : Int) ≤ 9223372036854775807 := by have := hr0.1; unfold maxLen at this; omega
  have mx1 : (l1.length : Int) ≤ 9223372036854775807 := by have := hr1.1; unfold maxLen at this; omega
  by_cases hl : L.length ≤ 60
  rotate_left 1
  · have hd : decide ((60 : Int) < L.length) = true := by simp; omega
    have HV := Lib.hid trivial
    clear hr hr0 hr1
    go_enter Try.func3, Try.ntmps3
    go_wp2_with (first
      | (go_at_call 4; refine (Long_any _ _ _ _).mono ?_; rintro e w' ⟨rfl, rfl⟩)
      | (go_at_call 5; refine HV.out.mono ?_; rintro e w' ⟨rfl, rfl⟩)
      | (go_at_call 6; refine (Sane_any _).mono ?_; rintro e w10 ⟨rfl, h10⟩))
    go_ret
    exact ⟨rfl, hB0.trs h10⟩
  have hl2 : L.length ≤ 1125899906842624 := by omega
  have hd : decide ((60 : Int) < L.length) = false := by simp; omega
  have HV := Lib.hid (refValid_any A c L _ (hr.on hB0) hl2)
  cases hv : vld L
  · rw [hv] at HV
    clear hv
    clear hr hr0 hr1
    go_enter Try.func3, Try.ntmps3
    go_wp2_with (first
      | (go_at_call 4; refine (Long_any _ _ _ _).mono ?_; rintro e w' ⟨rfl, rfl⟩)
      | (go_at_call 5; refine HV.out.mono ?_; rintro e w' ⟨rfl, rfl⟩)
      | (go_at_call 6; refine (Sane_any _).mono ?_; rintro e w10 ⟨rfl, h10⟩))
    go_ret
    exact ⟨rfl, hB0.trs h10⟩
  by_cases hs0 : 0 ≤ s
  rotate_left 1
  · have ds0 : decide (s < 0) = true := by rw [decide_eq_true_eq]; omega
    rw [hv] at HV
    clear hv
    clear hr hr0 hr1
    go_enter Try.func3, Try.ntmps3
    go_wp2_with (first
      | (go_at_call 4; refine (Long_any _ _ _ _).mono ?_; rintro e w' ⟨rfl, rfl⟩)
      | (go_at_call 5; refine HV.out.mono ?_; rintro e w' ⟨rfl, rfl⟩)
      | (go_at_call 6; refine (Sane_any _).mono ?_; rintro e w10 ⟨rfl, h10⟩))
    go_ret
    exact ⟨rfl, hB0.trs h10⟩
  have ds0 : decide (s < 0) = false := by rw [decide_eq_false_iff_not]; omega
  by_cases hs1 : s ≤ 100000
  rotate_left 1
  · have ds1 : decide ((100000 : Int) < s) = true := by rw [decide_eq_true_eq]; omega
    rw [hv] at HV
    clear hv
    clear hr hr0 hr1
    go_enter Try.func3, Try.ntmps3
    go_wp2_with (first
      | (go_at_call 4; refine (Long_any _ _ _ _).mono ?_; rintro e w' ⟨rfl, rfl⟩)
      | (go_at_call 5; refine HV.out.mono ?_; rintro e w' ⟨rfl, rfl⟩)
      | (go_at_call 6; refine (Sane_any _).mono ?_; rintro e w10 ⟨rfl, h10⟩))
    go_ret
    exact ⟨rfl, hB0.trs h10⟩
  have ds1 : decide ((100000 : Int) < s) = false := by rw [decide_eq_false_iff_not]; omega
  by_cases h70 : l0.length ≤ 700
  rotate_left 1
  · have d0 : decide ((700 : Int) < (l0.length : Int)) = true := by rw [decide_eq_true_eq]; omega
    rw [hv] at HV
    clear hv
    clear hr hr0 hr1
    go_enter Try.func3, Try.ntmps3
    go_wp2_with (first
      | (go_at_call 4; refine (Long_any _ _ _ _).mono ?_; rintro e w' ⟨rfl, rfl⟩)
      | (go_at_call 5; refine HV.out.mono ?_; rintro e w' ⟨rfl, rfl⟩)
      | (go_at_call 6; refine (Sane_any _).mono ?_; rintro e w10 ⟨rfl, h10⟩))
    go_ret
    exact ⟨rfl, hB0.trs h10⟩
  have d0 : decide ((700 : Int) < (l0.length : Int)) = false := by rw [decide_eq_false_iff_not]; omega
  by_cases h71 : l1.length ≤ 700
  rotate_left 1
  · have d1 : decide ((700 : Int) < (l1.length : Int)) = true := by rw [decide_eq_true_eq]; omega
    rw [hv] at HV
    clear hv
    clear hr hr0 hr1
    go_enter Try.func3, Try.ntmps3
    go_wp2_with (first
      | (go_at_call 4; refine (Long_any _ _ _ _).mono ?_; rintro e w' ⟨rfl, rfl⟩)
      | (go_at_call 5; refine HV.out.mono ?_; rintro e w' ⟨rfl, rfl⟩)
      | (go_at_call 6; refine (Sane_any _).mono ?_; rintro e w10 ⟨rfl, h10⟩))
    go_ret
    exact ⟨rfl, hB0.trs h10⟩
  clear HV
  have hs : btw 0 s 100000 = true := btw_iff.2 ⟨hs0, hs1⟩
  have hok := okL_of_vld hv
  have h600 := mets_len600 hok
  have hnn := mets_nn hv
  have hne := vld_ne hv
  have hvr := vld_reverse hv
  have hlr : L.reverse.length = L.length := List.length_reverse
  have hmr : mets L.reverse = (mets L).reverse := mets_reverse L
  have hC : lampC (mets L.reverse) s = lampC (mets L) s := by rw [hmr]; exact lampC_reverse hnn hs0
  have hnL : (LitsL (fun x _ => x) L s).length = (LitsL (fun _ y => y) L s).length := by unfold LitsL; split <;> simp [litL]
  have hcase : (LitsE L s = 5 ∧ (LitsL (fun x _ => x) L s).length = 0 ∧ LightB L s l0 = false ∧ LitsE L.reverse s = 5 ∧ (LitsL (fun x _ => x) L.reverse s).length = 0) ∨ (LitsE L s = 0 ∧ ∃ K, lampsO (mets L) s = some K ∧ LitsL (fun x _ => x) L s = fstI K ∧ LitsL (fun _ y => y) L s = sndI K ∧ 1 ≤ K.length ∧ K.length ≤ 600 ∧ LitsE L.reverse s = 0 ∧ (LitsL (fun x _ => x) L.reverse s).length = K.length) := by
    unfold lampC at hC
    cases hK : lampsO (mets L) s with
    | none =>
      cases hK2 : lampsO (mets L.reverse) s with
      | none => exact .inl ⟨by unfold LitsE; rw [hv, hs, hK]; rfl, by unfold LitsL; rw [hv, hs, hK]; simp [litL, lmp], light_none hv hK, by unfold LitsE; rw [hvr, hs, hK2]; rfl, by unfold LitsL; rw [hvr, hs, hK2]; simp [litL, lmp]⟩
      | some K' => rw [hK, hK2] at hC; simp at hC
    | some K =>
      cases hK2 : lampsO (mets L.reverse) s with
      | none => rw [hK, hK2] at hC; simp at hC
      | some K' =>
        rw [hK, hK2] at hC
        simp only [Option.map_some, Option.some.injEq] at hC
        have g := lampsO_greedy hK
        have hlen := lampsO_len hK
        have h1 : 1 ≤ K.length := by
          obtain ⟨a, ha, _⟩ := g.lights hnn hs0 0 (by omega) (by omega)
          cases K with
          | nil => simp at ha
          | cons x K => simp
        exact .inr ⟨by unfold LitsE; rw [hv, hs, hK]; rfl, K, rfl, by unfold LitsL; rw [hv, hs, hK]; exact litL_fst K, by unfold LitsL; rw [hv, hs, hK]; exact litL_snd K, h1, by omega, by unfold LitsE; rw [hvr, hs, hK2]; rfl, by unfold LitsL; rw [hvr, hs, hK2]; simp [litL, lmp, hC]⟩
  have hm6 : (LitsL (fun x _ => x) L s).length ≤ 600 := by
    rcases hcase with ⟨_, h2, _⟩ | ⟨_, K, _, h2, _, _, h3, _⟩
    · omega
    · rw [h2, fstI_len]; exact h3
  have hrev : LitsE L.reverse s = LitsE L s ∧ (LitsL (fun x _ => x) L.reverse s).length = (LitsL (fun x _ => x) L s).length := by
    rcases hcase with ⟨h1, h2, _, h3, h4⟩ | ⟨h1, K, _, h2, _, _, _, h3, h4⟩
    · exact ⟨by rw [h1, h3], by rw [h2, h4]⟩
    · exact ⟨by rw [h1, h3], by rw [h2, h4, fstI_len]⟩
  have hleast : ∀ (k : Int) (kk rr : Nat), k = (kk : Int) → 1 ≤ kk → kk ≤ 600 → lstI (mets L) kk = rr → LeastV L k = .tuple #[.int .i64 rr, .int .i64 0] := fun k kk rr e1 e2 e3 e4 => by
    have hg : LeastE L k = 0 := gate_ok hv (btw_iff.2 ⟨by omega, by omega⟩)
    unfold LeastV
    rw [val_ok hg, hg, e1, Int.toNat_natCast, e4]
  obtain ⟨sn, hsn⟩ := Int.eq_ofNat_of_zero_le hs0
  refine TopIce_gen w A L.length c s (LitsE L s) (gate (vld L) (LightR L s l0)) (gate (vld L) (DarkR L s l1)) (((LitsL (fun x _ => x) L s).length : Int) - 1) (LightB L s l0) (DarkB L s l1) A0 A1 l0.length c0 l1.length c1 (LitsL (fun x _ => x) L s).length (LitsL (fun x _ => x) L s) (LitsL (fun _ y => y) L s) L.reverse
    (by omega) hs0 hs1 h70 h71 hm6 rfl ?_ ?_ (fun hz hx => ?_) (fun hz hx => ?_) (fun hx hy => dark_light hv hx hy) ?_ (fun W hW => ?_) (fun W hW => ?_) (fun W hW => ?_) (fun W A' c' hW hR => ?_) (fun W hW => ?_) (fun W hW => ?_) (fun W hW => ?_) (fun h0 W A' c' hW hR => ?_) (fun h0 W A' c' hW hR => ?_) (fun h0 W hW => ?_) (fun h0 W hW h1m => ?_)
  · cases hlt : LightB L s l0
    · cases hR : LightR L s l0
      · exact .inr (.inr ⟨rfl, gate_arg hv rfl⟩)
      · exact .inr (.inl ⟨rfl, gate_ok hv rfl⟩)
    · exact .inl ⟨rfl, (light_facts hv hlt).1⟩
  · cases hlt : DarkB L s l1
    · cases hR : DarkR L s l1
      · exact .inr (.inr ⟨rfl, gate_arg hv rfl⟩)
      · exact .inr (.inl ⟨rfl, gate_ok hv rfl⟩)
    · exact .inl ⟨rfl, (dark_facts hv hlt).1⟩
  · rcases hcase with ⟨h1, _⟩ | ⟨_, K, hK, h2, _⟩
    · rw [h1] at hz; cases hz
    · rw [h2, fstI_len]; exact light_more hv hK hx
  · rcases hcase with ⟨h1, _⟩ | ⟨_, K, hK, h2, _⟩
    · rw [h1] at hz; cases hz
    · rw [h2, fstI_len]; exact dark_less hv hK hx
  · rcases hcase with ⟨h1, h2, h3, _⟩ | ⟨h1, K, _, h2, _, h3, _⟩
    · exact .inl ⟨h1, h2, h3⟩
    · exact .inr ⟨h1, by rw [h2, fstI_len]; exact h3⟩
  · have := refValid_any A c L W ((hr.on hB0).on hW) hl2; rw [hv] at this; exact this
  · have := Turned_any A c L W ((hr.on hB0).on hW) hl2
    rw [gate_ok hv rfl, show TL L = L.reverse by unfold TL; rw [hv]; rfl] at this
    exact this.mono (fun e w' ⟨h1, A', c', h2, h3⟩ => ⟨A', c', by rw [← hlr]; exact h2, h1, Lib.hid h3⟩)
  · exact (Lamps_any A c L s W ((hr.on hB0).on hW) hl2).mono (fun e w' ⟨h1, A', c', h2, h3⟩ => ⟨A', c', h2, h1, Lib.hid h3⟩)
  · have := Lamps_any A' c' L.reverse s W hR (by omega)
    unfold IntsRet at this
    rw [hrev.1, hrev.2, hlr] at this
    exact this.mono (fun e w' ⟨h1, A', c', h2, _⟩ => ⟨A', c', h2, h1⟩)
  · refine (Dark_any A c L s W ((hr.on hB0).on hW) hl2).mono (fun e w' ⟨h1, A', c', h2, h3⟩ => ⟨A', c', ?_, h1, Lib.hid h3⟩)
    rw [hnL]; exact h2
  · exact Light_any A A0 c c0 L s l0 W ((hr.on hB0).on hW) hl2 ((hr0.2.1.on hB0).on hW) (by omega)
  · exact AreDark_any A A1 c c1 L s l1 W ((hr.on hB0).on hW) hl2 ((hr1.2.1.on hB0).on hW) (by omega)
  · rcases hcase with ⟨h1, _⟩ | ⟨_, K, hK, h2, _⟩
    · rw [h1] at h0; cases h0
    · rw [h2] at hR hm6 ⊢
      have := refLight_any A A' c c' L s (fstI K) W ((hr.on hB0).on hW) hl2 hR (by omega)
      rw [(lamps_light hv hs hK).1, (lamps_light hv hs hK).2] at this
      exact this
  · rcases hcase with ⟨h1, _⟩ | ⟨_, K, hK, h2, h3, _⟩
    · rw [h1] at h0; cases h0
    · rw [hnL] at hm6 ⊢
      rw [h3] at hR hm6 ⊢
      have := refAreDark_any A A' c c' L s (sndI K) W ((hr.on hB0).on hW) hl2 hR (by omega)
      rw [(darks_dark hv hs hK).1, (darks_dark hv hs hK).2] at this
      exact this
  · rcases hcase with ⟨h1, _⟩ | ⟨_, K, hK, h2, _, k1, k6, _⟩
    · rw [h1] at h0; cases h0
    · rw [h2, fstI_len]
      obtain ⟨r, r1, r2, r3, r4⟩ := lst_is (mets_mem hok) h600 (k := K.length) k1
      have := Least_any A c L (K.length : Int) W ((hr.on hB0).on hW) hl2
      rw [hleast _ K.length r rfl k1 k6 r1] at this
      refine this.mono (fun e w' ⟨h1, h2⟩ => ⟨r, h1, ?_, h2⟩)
      rw [decide_eq_false_iff_not]
      intro hlt
      have h5 := r3 sn (by omega)
      unfold lampN at h5
      rw [← hsn, hK] at h5
      simp at h5
  · rcases hcase with ⟨h1, _⟩ | ⟨_, K, hK, h2, _, k1, k6, _⟩
    · rw [h1] at h0; cases h0
    · rw [h2, fstI_len] at h1m ⊢
      obtain ⟨r, r1, r2, r3, r4⟩ := lst_is (mets_mem hok) h600 (k := K.length - 1) (by omega)
      have := Least_any A c L ((K.length : Int) - 1) W ((hr.on hB0).on hW) hl2
      rw [hleast _ (K.length - 1) r (by omega) (by omega) (by omega) r1] at this
      refine this.mono (fun e w' ⟨h1, h2⟩ => ⟨r, h1, ?_, h2⟩)
      rw [decide_eq_true_eq]
      apply Classical.byContradiction
      intro hlt
      have h5 := r4 sn (by omega)
      unfold lampN at h5
      rw [← hsn, hK] at h5
      simp at h5
      omega
end Go.Proofs.Ytbocedbonaeohaa
