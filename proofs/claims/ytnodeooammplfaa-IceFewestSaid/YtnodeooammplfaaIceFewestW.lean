/- The walk of IceFewest. -/
import Derived.Test.YtnodeooammplfaaIceX
import Derived.Test.YtnodeooammplfaaIceAddsW
namespace Go.Proofs.Ytnodeooammplfaa
set_option linter.unusedVariables false
open Go.RowKit

def Tup2 (f : Nat) (args : Array Value) (a b : Int) (w : World) : Prop := ∀ W : World, Below w.heap.size w W → Calls Try.prog f args W fun e w' => e = .returned (.tuple #[.int .i64 a, .int .i64 b]) ∧ Below W.heap.size W w'
def LstE (f : Nat) (args : Array Value) (n : Nat) (b : Int) (w : World) : Prop := ∀ W : World, Below w.heap.size w W → Calls Try.prog f args W fun e w' => ∃ A' c', e = .returned (.tuple #[.slice A' n c', .int .i64 b]) ∧ Below W.heap.size W w'

set_option maxRecDepth 100000 in
set_option maxHeartbeats 8000000 in
theorem IceFewest_gen (w : World) (A : Option Addr) (q c : Nat) (x k r r1 o m6 : Int) (m1 m2 : Nat) (e2 : Int)
    (b0 : 0 ≤ x ∧ x < 65536) (hm6 : x % 600 = m6) (hk : 1 + m6 = k) (hq : ¬ (60 : Int) < (q : Int)) (hr0 : 0 ≤ r) (hr6 : r ≤ 60000) (hm1 : (m1 : Int) ≤ k) (hor : o ≤ r) (hr1 : r - 1 = r1) (hm12 : m1 ≤ 600 ∧ m2 ≤ 600)
    (HV : ∀ W : World, Below w.heap.size w W → Calls Try.prog 21 #[.slice A q c] W fun e w' => e = .returned (.bool true) ∧ W = w')
    (H1 : Tup2 36 #[.slice A q c, .int .i64 k] r 0 w)
    (H2 : LstE 49 #[.slice A q c, .int .i64 r] m1 0 w)
    (H3 : 0 < r → LstE 49 #[.slice A q c, .int .i64 r1] m2 e2 w ∧ (e2 = 5 ∨ (e2 = 0 ∧ k < (m2 : Int))))
    (H4 : ¬ k = 600 → Tup2 36 #[.slice A q c, .int .i64 (k + 1)] o 0 w) :
    Calls Try.prog 11 #[.slice A q c, .int .u16 x] w fun e w' => e = .returned (.bool true) ∧ Below w.heap.size w w' := by
  have hB := Below.refl w.heap.size w
  have hd : decide ((60 : Int) < (q : Int)) = false := by simpa using hq
  have g0 : 0 ≤ m6 ∧ m6 < 600 := by omega
  have s1 : IntKind.i64.wrap x = x := IntWalk.i64_in _ (by omega)
  have s1' : wrap64 x = x := IntWalk.wrap64_in _ (by omega)
  have s2 : IntKind.i64.wrap m6 = m6 := IntWalk.i64_in _ (by omega)
  have s2' : wrap64 m6 = m6 := IntWalk.wrap64_in _ (by omega)
  have t1 : x.tmod 600 = m6 := by rw [Int.tmod_eq_emod_of_nonneg b0.1]; exact hm6
  have hkb : 1 ≤ k ∧ k ≤ 600 := by omega
  have s3 : IntKind.i64.wrap (1 + m6) = k := by rw [hk]; exact IntWalk.i64_in _ (by omega)
  have s3' : wrap64 (1 + m6) = k := by rw [hk]; exact IntWalk.wrap64_in _ (by omega)
  have s4 : IntKind.i64.wrap (r - 1) = r1 := by rw [hr1]; exact IntWalk.i64_in _ (by omega)
  have s4' : wrap64 (r - 1) = r1 := by rw [hr1]; exact IntWalk.wrap64_in _ (by omega)
  have V := Lib.hid HV; have L1 := Lib.hid H1; have L2 := Lib.hid H2
  unfold Tup2 at L1
  unfold LstE at L2
  have z1 : decide (r < 0) = false := by rw [decide_eq_false_iff_not]; omega
  have z2 : decide ((60000 : Int) < r) = false := by rw [decide_eq_false_iff_not]; omega
  have z3 : decide (k < (m1 : Int)) = false := by rw [decide_eq_false_iff_not]; omega
  have z4 : decide (o ≤ r) = true := by rw [decide_eq_true_eq]; omega
  have i1 : (m1 : Int) ≤ 600 := by omega
  have i2 : (m2 : Int) ≤ 600 := by omega
  have HK := Lib.hid hk
  have HR1 := Lib.hid hr1
  clear HV H1 H2 hk hr1 hq hm1 hor
  by_cases hr : r = 0
  · subst hr
    clear H3
    by_cases h6 : k = 600
    · subst h6
      clear H4
      go_enter Try.func11, Try.ntmps11
      go_wp2_with (first
        | (go_at_call 16; refine (Long_any _ _ _ _).mono ?_; rintro e w' ⟨rfl, rfl⟩)
        | (go_at_call 21; refine (V.out _ hB).mono ?_; rintro e w' ⟨rfl, rfl⟩)
        | (go_at_call 36; first | (have := tk1; refine (L4.out _ hB).mono ?_; rintro e w4 ⟨rfl, h4⟩; have hB := hB.trs h4) | (refine (L1.out _ hB).mono ?_; rintro e w1 ⟨rfl, h1⟩; have hB := hB.trs h1; have tk1 := trivial))
        | (go_at_call 49; first | (have := tk2; refine (L3.out _ hB).mono ?_; rintro e w3 ⟨A3, c3, rfl, h3⟩; have hB := hB.trs h3) | (refine (L2.out _ hB).mono ?_; rintro e w2 ⟨A2, c2, rfl, h2⟩; have hB := hB.trs h2; have tk2 := trivial))
        | (go_at_call 17; refine (Sane_any _).mono ?_; rintro e w8 ⟨rfl, h8⟩; have hB := hB.trs h8))
      go_ret
      exact ⟨rfl, hB⟩
    · have L4 := Lib.hid (H4 h6)
      unfold Tup2 at L4
      clear H4
      go_enter Try.func11, Try.ntmps11
      go_wp2_with (first
        | (go_at_call 16; refine (Long_any _ _ _ _).mono ?_; rintro e w' ⟨rfl, rfl⟩)
        | (go_at_call 21; refine (V.out _ hB).mono ?_; rintro e w' ⟨rfl, rfl⟩)
        | (go_at_call 36; first | (have := tk1; refine (L4.out _ hB).mono ?_; rintro e w4 ⟨rfl, h4⟩; have hB := hB.trs h4) | (refine (L1.out _ hB).mono ?_; rintro e w1 ⟨rfl, h1⟩; have hB := hB.trs h1; have tk1 := trivial))
        | (go_at_call 49; first | (have := tk2; refine (L3.out _ hB).mono ?_; rintro e w3 ⟨A3, c3, rfl, h3⟩; have hB := hB.trs h3) | (refine (L2.out _ hB).mono ?_; rintro e w2 ⟨A2, c2, rfl, h2⟩; have hB := hB.trs h2; have tk2 := trivial))
        | (go_at_call 17; refine (Sane_any _).mono ?_; rintro e w8 ⟨rfl, h8⟩; have hB := hB.trs h8))
      go_ret
      exact ⟨rfl, hB⟩
  · have hrp : 0 < r := by omega
    obtain ⟨H3a, H3b⟩ := H3 hrp
    have L3 := Lib.hid H3a
    unfold LstE at L3
    clear H3 H3a hr
    rcases H3b with rfl | ⟨rfl, hm2⟩
    · by_cases h6 : k = 600
      · subst h6
        clear H4
        go_enter Try.func11, Try.ntmps11
        go_wp2_with (first
          | (go_at_call 16; refine (Long_any _ _ _ _).mono ?_; rintro e w' ⟨rfl, rfl⟩)
          | (go_at_call 21; refine (V.out _ hB).mono ?_; rintro e w' ⟨rfl, rfl⟩)
          | (go_at_call 36; first | (have := tk1; refine (L4.out _ hB).mono ?_; rintro e w4 ⟨rfl, h4⟩; have hB := hB.trs h4) | (refine (L1.out _ hB).mono ?_; rintro e w1 ⟨rfl, h1⟩; have hB := hB.trs h1; have tk1 := trivial))
          | (go_at_call 49; first | (have := tk2; refine (L3.out _ hB).mono ?_; rintro e w3 ⟨A3, c3, rfl, h3⟩; have hB := hB.trs h3) | (refine (L2.out _ hB).mono ?_; rintro e w2 ⟨A2, c2, rfl, h2⟩; have hB := hB.trs h2; have tk2 := trivial))
          | (go_at_call 17; refine (Sane_any _).mono ?_; rintro e w8 ⟨rfl, h8⟩; have hB := hB.trs h8))
        go_ret
        exact ⟨rfl, hB⟩
      · have L4 := Lib.hid (H4 h6)
        unfold Tup2 at L4
        clear H4
        go_enter Try.func11, Try.ntmps11
        go_wp2_with (first
          | (go_at_call 16; refine (Long_any _ _ _ _).mono ?_; rintro e w' ⟨rfl, rfl⟩)
          | (go_at_call 21; refine (V.out _ hB).mono ?_; rintro e w' ⟨rfl, rfl⟩)
          | (go_at_call 36; first | (have := tk1; refine (L4.out _ hB).mono ?_; rintro e w4 ⟨rfl, h4⟩; have hB := hB.trs h4) | (refine (L1.out _ hB).mono ?_; rintro e w1 ⟨rfl, h1⟩; have hB := hB.trs h1; have tk1 := trivial))
          | (go_at_call 49; first | (have := tk2; refine (L3.out _ hB).mono ?_; rintro e w3 ⟨A3, c3, rfl, h3⟩; have hB := hB.trs h3) | (refine (L2.out _ hB).mono ?_; rintro e w2 ⟨A2, c2, rfl, h2⟩; have hB := hB.trs h2; have tk2 := trivial))
          | (go_at_call 17; refine (Sane_any _).mono ?_; rintro e w8 ⟨rfl, h8⟩; have hB := hB.trs h8))
        go_ret
        exact ⟨rfl, hB⟩
    · have z5 : decide ((m2 : Int) ≤ k) = false := by rw [decide_eq_false_iff_not]; omega
      by_cases h6 : k = 600
      · exfalso; omega
      · have L4 := Lib.hid (H4 h6)
        unfold Tup2 at L4
        clear H4
        go_enter Try.func11, Try.ntmps11
        go_wp2_with (first
          | (go_at_call 16; refine (Long_any _ _ _ _).mono ?_; rintro e w' ⟨rfl, rfl⟩)
          | (go_at_call 21; refine (V.out _ hB).mono ?_; rintro e w' ⟨rfl, rfl⟩)
          | (go_at_call 36; first | (have := tk1; refine (L4.out _ hB).mono ?_; rintro e w4 ⟨rfl, h4⟩; have hB := hB.trs h4) | (refine (L1.out _ hB).mono ?_; rintro e w1 ⟨rfl, h1⟩; have hB := hB.trs h1; have tk1 := trivial))
          | (go_at_call 49; first | (have := tk2; refine (L3.out _ hB).mono ?_; rintro e w3 ⟨A3, c3, rfl, h3⟩; have hB := hB.trs h3) | (refine (L2.out _ hB).mono ?_; rintro e w2 ⟨A2, c2, rfl, h2⟩; have hB := hB.trs h2; have tk2 := trivial))
          | (go_at_call 17; refine (Sane_any _).mono ?_; rintro e w8 ⟨rfl, h8⟩; have hB := hB.trs h8))
        go_ret
        exact ⟨rfl, hB⟩

theorem IceFewest_walk (w : World) (A : Option Addr) (c : Nat) (L : List (Int × Int)) (hr : RdP w w.heap.size A L) (_hm : L.length ≤ maxLen) (x : Int) (wx : (Lit.int .u16 x).wf = true) :
    Calls Try.prog 11 #[.slice A L.length c, .int .u16 x] w fun e w' => e = .returned (.bool true) ∧ Below w.heap.size w w' := by
  by_cases hl : L.length ≤ 60
  · have hl2 : L.length ≤ 1125899906842624 := by omega
    cases hv : vld L
    · have hd : decide ((60 : Int) < L.length) = false := by simp; omega
      have HV := Lib.hid (refValid_any A c L w hr hl2)
      rw [hv] at HV
      clear hr hv
      go_enter Try.func11, Try.ntmps11
      go_wp2_with (first
        | (go_at_call 16; refine (Long_any _ _ _ _).mono ?_; rintro e w' ⟨rfl, rfl⟩)
        | (go_at_call 21; refine HV.out.mono ?_; rintro e w' ⟨rfl, rfl⟩)
        | (go_at_call 17; refine (Sane_any _).mono ?_; rintro e w10 ⟨rfl, h10⟩))
      go_ret
      exact ⟨rfl, h10⟩
    · have bx := bounds_u16 wx
      have hok := okL_of_vld hv
      have h600 := mets_len600 hok
      obtain ⟨kn, hkn⟩ : ∃ kn : Nat, (kn : Int) = 1 + x % 600 := ⟨(1 + x % 600).toNat, by omega⟩
      obtain ⟨r, h1, h2, h3, h4⟩ := lst_is (mets_mem hok) h600 (k := kn) (by omega)
      obtain ⟨o, o1, o2, o3, o4⟩ := lst_is (mets_mem hok) h600 (k := kn + 1) (by omega)
      have hor : o ≤ r := by
        apply Classical.byContradiction; intro hc
        have e1 := o3 r (by omega)
        have e2 := lampN_mono (fun d hd => (mets_mem hok d hd).1) (s := (r : Int)) (s' := (r : Int)) (by omega) (Int.le_refl _) (k := kn) (k' := kn + 1) (by omega) (h4 r (Nat.le_refl _))
        rw [e2] at e1; cases e1
      have hleast : ∀ (k : Int) (kk rr : Nat), k = (kk : Int) → 1 ≤ kk → kk ≤ 600 → lstI (mets L) kk = rr → LeastV L k = .tuple #[.int .i64 rr, .int .i64 0] := fun k kk rr e1 e2 e3 e4 => by
        have hg : LeastE L k = 0 := gate_ok hv (btw_iff.2 ⟨by omega, by omega⟩)
        unfold LeastV
        rw [val_ok hg, hg, e1, Int.toNat_natCast, e4]
      have hlamps : ∀ (s : Nat) K, s ≤ 100000 → lampsO (mets L) s = some K → LitsE L s = 0 ∧ (LitsL (fun x _ => x) L s).length = K.length := fun s K hs hK => by
        have hb : btw 0 (s : Int) 100000 = true := btw_iff.2 ⟨by omega, by omega⟩
        constructor
        · unfold LitsE; rw [hv, hb, hK]; rfl
        · unfold LitsL; rw [hv, hb, hK]; simp [litL, lmp]
      have hnone : ∀ (s : Nat), s ≤ 100000 → lampsO (mets L) s = none → LitsE L s = 5 ∧ (LitsL (fun x _ => x) L s).length = 0 := fun s hs hK => by
        have hb : btw 0 (s : Int) 100000 = true := btw_iff.2 ⟨by omega, by omega⟩
        constructor
        · unfold LitsE; rw [hv, hb, hK]; rfl
        · unfold LitsL; rw [hv, hb, hK]; simp [litL, lmp]
      have hK1 : ∃ K, lampsO (mets L) (r : Int) = some K ∧ K.length ≤ kn := by
        have := h4 r (Nat.le_refl _)
        unfold lampN at this
        cases hK : lampsO (mets L) (r : Int) with
        | none => rw [hK] at this; cases this
        | some K => rw [hK] at this; exact ⟨K, rfl, by simpa using this⟩
      obtain ⟨K, hK, hKl⟩ := hK1
      obtain ⟨e0, el⟩ := hlamps r K (by omega) hK
      have hKn := lampsO_len hK
      refine IceFewest_gen w A L.length c x kn r ((r : Int) - 1) o (x % 600) K.length (LitsL (fun x _ => x) L ((r : Int) - 1)).length (LitsE L ((r : Int) - 1)) ⟨bx.1, by omega⟩ rfl hkn.symm (by omega) (by omega) (by omega) (by omega) (by omega) rfl ?_ (fun W hW => ?_) (fun W hW => ?_) (fun W hW => ?_) (fun hrp => ?_) (fun h6 W hW => ?_)
      · refine ⟨by omega, ?_⟩
        unfold LitsL
        split
        · unfold litL
          rw [List.length_map, lmp_len]
          cases hk : lampsO (mets L) ((r : Int) - 1) with
          | none => simp
          | some K' => have := lampsO_len hk; simp only [Option.getD_some]; omega
        · simp
      · have := refValid_any A c L W (hr.on hW) hl2; rw [hv] at this; exact this
      · have := Least_any A c L kn W (hr.on hW) hl2; rw [hleast kn kn r rfl (by omega) (by omega) h1] at this; exact this
      · refine (Lamps_any A c L r W (hr.on hW) hl2).mono (fun e w' ⟨hb, A', c', he, _⟩ => ?_)
        rw [e0, el] at he
        exact ⟨A', c', he, hb⟩
      · obtain ⟨r', rfl⟩ : ∃ r' : Nat, r = r' + 1 := ⟨r - 1, by omega⟩
        have er : (((r' + 1 : Nat) : Int) - 1) = (r' : Int) := by omega
        rw [er]
        refine ⟨fun W hW => (Lamps_any A c L r' W (hr.on hW) hl2).mono (fun e w' ⟨hb, A', c', he, _⟩ => ⟨A', c', he, hb⟩), ?_⟩
        have hf := h3 r' (by omega)
        unfold lampN at hf
        cases hK' : lampsO (mets L) (r' : Int) with
        | none => exact .inl (hnone r' (by omega) hK').1
        | some K' =>
          rw [hK'] at hf
          have := hlamps r' K' (by omega) hK'
          exact .inr ⟨this.1, by rw [this.2]; simp at hf; omega⟩
      · have := Least_any A c L ((kn : Int) + 1) W (hr.on hW) hl2
        rw [hleast ((kn : Int) + 1) (kn + 1) o (by omega) (by omega) (by omega) o1] at this
        exact this
  · have hd : decide ((60 : Int) < L.length) = true := by simp; omega
    go_enter Try.func11, Try.ntmps11
    go_wp2_with (first
      | (go_at_call 16; refine (Long_any _ _ _ _).mono ?_; rintro e w' ⟨rfl, rfl⟩)
      | (go_at_call 17; refine (Sane_any _).mono ?_; rintro e w10 ⟨rfl, h10⟩))
    go_ret
    exact ⟨rfl, h10⟩
end Go.Proofs.Ytnodeooammplfaa
