/- The walk of IceDarks. -/
import Derived.Test.YtnodeooammplfaaIceV
import Derived.Test.YtnodeooammplfaaIceLossesW
namespace Go.Proofs.Ytnodeooammplfaa
open Go.RowKit

set_option maxRecDepth 100000 in
set_option maxHeartbeats 4000000 in
theorem IceDarks_walk (w : World) (A : Option Addr) (c : Nat) (L : List (Int × Int)) (hr : RdP w w.heap.size A L) (_hm : L.length ≤ maxLen) (s : Int) (A2 : Option Addr) (c2 : Nat) (la : List Int) (hr2 : RdI w w.heap.size A2 la ∧ ∀ x ∈ la, (Lit.int .i64 x).wf = true) (_hm2 : la.length ≤ maxLen) :
    Calls Try.prog 12 #[.slice A L.length c, .int .i64 s, .slice A2 la.length c2] w fun e w' => e = .returned (.bool true) ∧ Below w.heap.size w w' := by
  have HR := Lib.hid hr; clear hr
  have HR2 := Lib.hid hr2.1; clear hr2
  have hB := Below.refl w.heap.size w
  have hmx : (la.length : Int) ≤ 9223372036854775807 := by have := _hm2; unfold maxLen at this; omega
  by_cases hl : L.length ≤ 60
  · have hd : decide ((60 : Int) < L.length) = false := by simp; omega
    have hl2 : L.length ≤ 1125899906842624 := by omega
    by_cases h7 : la.length ≤ 700
    · have h7i : ¬ (700 : Int) < (la.length : Int) := by omega
      have hla : la.length ≤ 1000000 := by omega
      have H1 := Lib.hid (fun W (h : Below w.heap.size w W) => Dark_any A c L s W (HR.out.on h) hl2)
      have H2 := Lib.hid (fun W (h : Below w.heap.size w W) => refDark_any A c L s W (HR.out.on h) hl2)
      have H3 := Lib.hid (fun W (h : Below w.heap.size w W) => AreDark_any A A2 c c2 L s la W (HR.out.on h) hl2 (HR2.out.on h) hla)
      have H4 := Lib.hid (fun W (h : Below w.heap.size w W) => refAreDark_any A A2 c c2 L s la W (HR.out.on h) hl2 (HR2.out.on h) hla)
      have hll : (LitsL (fun _ y => y) L s).length ≤ 1125899906842624 := by
        unfold LitsL
        split
        · next h =>
          unfold litL
          rw [List.length_map, lmp_len]
          have h600 := mets_len600 (okL_of_vld (Bool.and_eq_true_iff.1 h).1)
          cases hk : lampsO (mets L) s with
          | none => simp
          | some K => have := lampsO_len hk; simp only [Option.getD_some]; omega
        · simp
      have HLL := Lib.hid hll; clear hll
      generalize LitsL (fun _ y => y) L s = l at *
      generalize LitsE L s = er at *
      generalize DarkB L s la = bv at *
      generalize gate (vld L) (DarkR L s la) = e2 at *
      go_enter Try.func12, Try.ntmps12
      go_wp2_with (first
        | (go_at_call 16; refine (Long_any _ _ _ _).mono ?_; rintro e w' ⟨rfl, rfl⟩)
        | (go_at_call 50; refine (H1.out _ hB).mono ?_; rintro e w1 ⟨h1, A3, c3, rfl, r1⟩; have hB := hB.trs h1; have R1 := Lib.hid r1; clear r1)
        | (go_at_call 51; refine (H2.out _ hB).mono ?_; rintro e w2 ⟨h2, A4, c4, rfl, r2⟩; have hB := hB.trs h2; have R2 := Lib.hid r2; clear r2)
        | (go_at_call 52; refine (H3.out _ hB).mono ?_; rintro e w3 ⟨rfl, h3⟩; have hB := hB.trs h3)
        | (go_at_call 53; refine (H4.out _ hB).mono ?_; rintro e w4 ⟨rfl, h4⟩; have hB := hB.trs h4)
        | (go_at_call 54; refine (sameInts_any _ _ _ _ l _ (((R1.out.on h2).on h3).on h4) ((R2.out.on h3).on h4) HLL.out).mono ?_; rintro e w5 ⟨rfl, h5⟩; have hB := hB.trs h5)
        | (go_at_call 17; refine (Sane_any _).mono ?_; rintro e w6 ⟨rfl, h6⟩; have hB := hB.trs h6))
      go_ret
      exact ⟨rfl, hB⟩
    · have h7i : (700 : Int) < (la.length : Int) := by omega
      go_enter Try.func12, Try.ntmps12
      go_wp2_with (first
        | (go_at_call 16; refine (Long_any _ _ _ _).mono ?_; rintro e w' ⟨rfl, rfl⟩)
        | (go_at_call 17; refine (Sane_any _).mono ?_; rintro e w10 ⟨rfl, h10⟩))
      go_ret
      exact ⟨rfl, h10⟩
  · have hd : decide ((60 : Int) < L.length) = true := by simp; omega
    go_enter Try.func12, Try.ntmps12
    go_wp2_with (first
      | (go_at_call 16; refine (Long_any _ _ _ _).mono ?_; rintro e w' ⟨rfl, rfl⟩)
      | (go_at_call 17; refine (Sane_any _).mono ?_; rintro e w10 ⟨rfl, h10⟩))
    go_ret
    exact ⟨rfl, h10⟩
end Go.Proofs.Ytnodeooammplfaa
