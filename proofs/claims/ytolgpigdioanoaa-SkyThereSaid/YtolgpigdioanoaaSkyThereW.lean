/- The walk of SkyThere. -/
import Derived.Test.YtolgpigdioanoaaSkyZ
import Derived.Test.YtolgpigdioanoaaSkyG
import Derived.OpenShut
namespace Go.Proofs.Ytolgpigdioanoaa
open Go.RowKit

/-- a pixel's place leads back to it -/
theorem nst_back {k p : Int} (h : okP k p = true) : okN k (fF k p) (fX k p) (fY k p) = true ∧ nst k (fF k p) (fX k p) (fY k p) = p := by
  have hk := okP_k h
  have hkk := btw_iff.1 hk
  obtain ⟨hx, hy, hf⟩ := spot_bounds h
  obtain ⟨q1, q2, q3, q4⟩ := sd_sq hk
  refine ⟨by rw [okN, btw_iff.2 hf, btw_iff.2 hx, btw_iff.2 hy]; rfl, ?_⟩
  have m1 := Int.emod_nonneg p (show sd k * sd k ≠ 0 by omega)
  have m2 := Int.emod_lt_of_pos p (show 0 < sd k * sd k by omega)
  have g2 := btF_gat ⟨k.toNat, by omega⟩ ⟨(p % (sd k * sd k)).toNat, by omega⟩ (by simp only; omega)
  simp only [show (((p % (sd k * sd k)).toNat : Nat) : Int) = p % (sd k * sd k) by omega] at g2
  unfold nst fF fX fY fN
  rw [g2, Int.mul_assoc, Int.mul_comm]
  exact Int.mul_ediv_add_emod p (sd k * sd k)

set_option maxRecDepth 100000 in
set_option maxHeartbeats 4000000 in
/-- the walk, all numbers letters -/
theorem SkyThere_gen (w : World) (o p q k N a b f x y n m R P R' P' L : Int) (l : List Int)
    (o0 : 0 ≤ o) (o1 : o < 256) (p0 : 0 ≤ p) (p1 : p < 65536) (q0 : 0 ≤ q) (q1 : q < 65536)
    (ek : o % 5 = k) (hN : 12 ≤ N) (hN2 : N ≤ 3072) (ea : p % N = a) (eb : q % N = b) (n0 : 0 ≤ n) (n1 : n < N)
    (hc : (a = b ∧ n = m ∧ R = R' ∧ P = P') ∨ (¬ a = b ∧ ¬ n = m ∧ n < m ∧ R < R') ∨ (¬ a = b ∧ ¬ n = m ∧ n < m ∧ R = R' ∧ P < P') ∨ (¬ a = b ∧ ¬ n = m ∧ ¬ n < m ∧ ¬ R < R' ∧ ¬ R = R') ∨ (¬ a = b ∧ ¬ n = m ∧ ¬ n < m ∧ R = R' ∧ ¬ P < P'))
    (hP1 : 1 ≤ P) (hP2 : P ≤ L) (hL : L ≤ 64) (hll : (l.length : Int) = L) (hlp : ix l (P - 1).toNat = a)
    (HPx : ∀ W, Calls Try.prog 25 #[.int .i64 k] W fun e w' => e = .returned (.tuple #[.int .i64 N, .int .i64 0]) ∧ Below W.heap.size W w')
    (HPl : ∀ W, Calls Try.prog 31 #[.int .i64 k, .int .i64 a] W fun e w' => e = .returned (.tuple #[.int .i64 f, .int .i64 x, .int .i64 y, .int .i64 0]) ∧ Below W.heap.size W w')
    (HNe : ∀ W, Calls Try.prog 23 #[.int .i64 k, .int .i64 f, .int .i64 x, .int .i64 y] W fun e w' => e = .returned (.tuple #[.int .i64 a, .int .i64 0]) ∧ Below W.heap.size W w')
    (HRa : ∀ W, Calls Try.prog 33 #[.int .i64 k, .int .i64 a] W fun e w' => e = .returned (.tuple #[.int .i64 n, .int .i64 0]) ∧ Below W.heap.size W w')
    (HRb : ∀ W, Calls Try.prog 33 #[.int .i64 k, .int .i64 b] W fun e w' => e = .returned (.tuple #[.int .i64 m, .int .i64 0]) ∧ Below W.heap.size W w')
    (HFr : ∀ W, Calls Try.prog 35 #[.int .i64 k, .int .i64 n] W fun e w' => e = .returned (.tuple #[.int .i64 a, .int .i64 0]) ∧ Below W.heap.size W w')
    (HOa : ∀ W, Calls Try.prog 37 #[.int .i64 k, .int .i64 a] W fun e w' => e = .returned (.tuple #[.int .i64 R, .int .i64 P, .int .i64 0]) ∧ Below W.heap.size W w')
    (HOb : ∀ W, Calls Try.prog 37 #[.int .i64 k, .int .i64 b] W fun e w' => e = .returned (.tuple #[.int .i64 R', .int .i64 P', .int .i64 0]) ∧ Below W.heap.size W w')
    (HLe : ∀ W, Calls Try.prog 26 #[.int .i64 k, .int .i64 R] W fun e w' => e = .returned (.tuple #[.int .i64 L, .int .i64 0]) ∧ Below W.heap.size W w')
    (HOn : ∀ W, Calls Try.prog 28 #[.int .i64 k, .int .i64 R] W (IntsRet l 0 W)) :
    Calls Try.prog 9 #[.int .u8 o, .int .u16 p, .int .u16 q] w fun e w' => e = .returned (.bool true) ∧ Below w.heap.size w w' := by
  have VPx := Lib.hid HPx; have VPl := Lib.hid HPl; have VNe := Lib.hid HNe; have VRa := Lib.hid HRa; have VRb := Lib.hid HRb; have VFr := Lib.hid HFr; have VOa := Lib.hid HOa; have VOb := Lib.hid HOb; have VLe := Lib.hid HLe; have VOn := Lib.hid HOn
  clear HPx HPl HNe HRa HRb HFr HOa HOb HLe HOn
  have HLP := Lib.hid hlp; clear hlp
  have s1 : IntKind.i64.wrap o = o := IntWalk.i64_in _ (by omega)
  have s2 : IntKind.i64.wrap p = p := IntWalk.i64_in _ (by omega)
  have s3 : IntKind.i64.wrap q = q := IntWalk.i64_in _ (by omega)
  have s1' : wrap64 o = o := IntWalk.wrap64_in _ (by omega)
  have s2' : wrap64 p = p := IntWalk.wrap64_in _ (by omega)
  have s3' : wrap64 q = q := IntWalk.wrap64_in _ (by omega)
  have m0 : ¬ N = 0 := by omega
  have t1 : o.tmod 5 = k := by rw [Int.tmod_eq_emod_of_nonneg o0]; exact ek
  have t2 : p.tmod N = a := by rw [Int.tmod_eq_emod_of_nonneg p0]; exact ea
  have t3 : q.tmod N = b := by rw [Int.tmod_eq_emod_of_nonneg q0]; exact eb
  have v1 : IntKind.i64.wrap k = k := IntWalk.i64_in _ (by omega)
  have v2 : IntKind.i64.wrap a = a := IntWalk.i64_in _ (by have := Int.emod_nonneg p m0; have := Int.emod_lt_of_pos p (show 0 < N by omega); omega)
  have v3 : IntKind.i64.wrap b = b := IntWalk.i64_in _ (by have := Int.emod_nonneg q m0; have := Int.emod_lt_of_pos q (show 0 < N by omega); omega)
  have g1 : ¬ N < 12 := by omega
  have g2 : ¬ 3072 < N := by omega
  have g3 : ¬ n < 0 := by omega
  have g4 : ¬ N ≤ n := by omega
  obtain ⟨i, hi⟩ : ∃ i : Nat, P = (i : Int) + 1 := ⟨(P - 1).toNat, by omega⟩
  have hil : i < l.length := by omega
  have HLI : Hid (ix l i = a) := Lib.hid (by have := HLP.out; rwa [hi, show ((i : Int) + 1 - 1).toNat = i by omega] at this)
  subst hi
  have HLL := Lib.hid hll; clear hll
  have hwi : IntKind.i64.wrap ((i : Int) + 1 - 1) = (i : Int) + 1 - 1 := IntWalk.i64_in _ (by omega)
  have HB0 := Lib.hid (Below.refl w.heap.size w)
  have hlen : (L : Int) = L := rfl
  rcases hc with ⟨c1, c2, c3, c4⟩ | ⟨c1, c2, c3, c4⟩ | ⟨c1, c2, c3, c4, c5⟩ | ⟨c1, c2, c3, c4, c5⟩ | ⟨c1, c2, c3, c4, c5⟩
  · subst c1; subst c2; subst c3; subst c4
    go_enter Try.func9, Try.ntmps9
    go_wp2_with (first
        | (go_at_call 25; refine (VPx.out _).mono ?_; rintro e w1 ⟨rfl, h1⟩; have hB := HB0.out.trs h1)
        | (go_at_call 31; refine (VPl.out _).mono ?_; rintro e w2 ⟨rfl, h2⟩; have hB := hB.trs h2)
        | (go_at_call 23; refine (VNe.out _).mono ?_; rintro e w3 ⟨rfl, h3⟩; have hB := hB.trs h3)
        | (go_at_call 33; first | (have := tok1; refine (VRa.out _).mono ?_; rintro e w6 ⟨rfl, h6⟩; have hB := hB.trs h6) | (refine (VRa.out _).mono ?_; rintro e w4 ⟨rfl, h4⟩; have hB := hB.trs h4; have tok1 := trivial))
        | (go_at_call 35; refine (VFr.out _).mono ?_; rintro e w5 ⟨rfl, h5⟩; have hB := hB.trs h5)
        | (go_at_call 37; first | (have := tok2; refine (VOa.out _).mono ?_; rintro e w8 ⟨rfl, h8⟩; have hB := hB.trs h8) | (refine (VOa.out _).mono ?_; rintro e w7 ⟨rfl, h7⟩; have hB := hB.trs h7; have tok2 := trivial))
        | (go_at_call 26; refine (VLe.out _).mono ?_; rintro e w9 ⟨rfl, h9⟩; have hB := hB.trs h9)
        | (go_at_call 28; refine (VOn.out _).mono ?_; rintro e wA ⟨hA, A, cc, rfl, hr⟩; have hB := hB.trs hA; obtain ⟨bb, oo, rfl, hbb, q1⟩ := hr.at_ hil; rw [HLI.out] at q1; clear hr)
        | (go_at_call 22; refine (Sane_any _).mono ?_; rintro e wC ⟨rfl, hC⟩; have hB := hB.trs hC))
    go_quiet (fail)
    have hB := hB.drewsN nq
    go_wp2_with (first
        | (go_at_call 25; refine (VPx.out _).mono ?_; rintro e w1 ⟨rfl, h1⟩; have hB := HB0.out.trs h1)
        | (go_at_call 31; refine (VPl.out _).mono ?_; rintro e w2 ⟨rfl, h2⟩; have hB := hB.trs h2)
        | (go_at_call 23; refine (VNe.out _).mono ?_; rintro e w3 ⟨rfl, h3⟩; have hB := hB.trs h3)
        | (go_at_call 33; first | (have := tok1; refine (VRa.out _).mono ?_; rintro e w6 ⟨rfl, h6⟩; have hB := hB.trs h6) | (refine (VRa.out _).mono ?_; rintro e w4 ⟨rfl, h4⟩; have hB := hB.trs h4; have tok1 := trivial))
        | (go_at_call 35; refine (VFr.out _).mono ?_; rintro e w5 ⟨rfl, h5⟩; have hB := hB.trs h5)
        | (go_at_call 37; first | (have := tok2; refine (VOa.out _).mono ?_; rintro e w8 ⟨rfl, h8⟩; have hB := hB.trs h8) | (refine (VOa.out _).mono ?_; rintro e w7 ⟨rfl, h7⟩; have hB := hB.trs h7; have tok2 := trivial))
        | (go_at_call 26; refine (VLe.out _).mono ?_; rintro e w9 ⟨rfl, h9⟩; have hB := hB.trs h9)
        | (go_at_call 28; refine (VOn.out _).mono ?_; rintro e wA ⟨hA, A, cc, rfl, hr⟩; have hB := hB.trs hA; obtain ⟨bb, oo, rfl, hbb, q1⟩ := hr.at_ hil; rw [HLI.out] at q1; clear hr)
        | (go_at_call 22; refine (Sane_any _).mono ?_; rintro e wC ⟨rfl, hC⟩; have hB := hB.trs hC))
    go_ret
    exact ⟨rfl, hB⟩
  · have c5 : ¬ R = R' := by omega
    have d1 : (n == m) = false := by simpa using c2
    have d2 : (a == b) = false := by simpa using c1
    have d3 : decide (n < m) = true := by simpa using c3
    have d4 : decide (R < R') = true := by simpa using c4
    clear c1 c2 c3 c4 c5
    go_enter Try.func9, Try.ntmps9
    go_wp2_with (first
        | (go_at_call 25; refine (VPx.out _).mono ?_; rintro e w1 ⟨rfl, h1⟩; have hB := HB0.out.trs h1)
        | (go_at_call 31; refine (VPl.out _).mono ?_; rintro e w2 ⟨rfl, h2⟩; have hB := hB.trs h2)
        | (go_at_call 23; refine (VNe.out _).mono ?_; rintro e w3 ⟨rfl, h3⟩; have hB := hB.trs h3)
        | (go_at_call 33; first | (have := tok1; refine (VRb.out _).mono ?_; rintro e w6 ⟨rfl, h6⟩; have hB := hB.trs h6) | (refine (VRa.out _).mono ?_; rintro e w4 ⟨rfl, h4⟩; have hB := hB.trs h4; have tok1 := trivial))
        | (go_at_call 35; refine (VFr.out _).mono ?_; rintro e w5 ⟨rfl, h5⟩; have hB := hB.trs h5)
        | (go_at_call 37; first | (have := tok2; refine (VOb.out _).mono ?_; rintro e w8 ⟨rfl, h8⟩; have hB := hB.trs h8) | (refine (VOa.out _).mono ?_; rintro e w7 ⟨rfl, h7⟩; have hB := hB.trs h7; have tok2 := trivial))
        | (go_at_call 26; refine (VLe.out _).mono ?_; rintro e w9 ⟨rfl, h9⟩; have hB := hB.trs h9)
        | (go_at_call 28; refine (VOn.out _).mono ?_; rintro e wA ⟨hA, A, cc, rfl, hr⟩; have hB := hB.trs hA; obtain ⟨bb, oo, rfl, hbb, q1⟩ := hr.at_ hil; rw [HLI.out] at q1; clear hr)
        | (go_at_call 22; refine (Sane_any _).mono ?_; rintro e wC ⟨rfl, hC⟩; have hB := hB.trs hC))
    go_quiet (fail)
    have hB := hB.drewsN nq
    go_wp2_with (first
        | (go_at_call 25; refine (VPx.out _).mono ?_; rintro e w1 ⟨rfl, h1⟩; have hB := HB0.out.trs h1)
        | (go_at_call 31; refine (VPl.out _).mono ?_; rintro e w2 ⟨rfl, h2⟩; have hB := hB.trs h2)
        | (go_at_call 23; refine (VNe.out _).mono ?_; rintro e w3 ⟨rfl, h3⟩; have hB := hB.trs h3)
        | (go_at_call 33; first | (have := tok1; refine (VRb.out _).mono ?_; rintro e w6 ⟨rfl, h6⟩; have hB := hB.trs h6) | (refine (VRa.out _).mono ?_; rintro e w4 ⟨rfl, h4⟩; have hB := hB.trs h4; have tok1 := trivial))
        | (go_at_call 35; refine (VFr.out _).mono ?_; rintro e w5 ⟨rfl, h5⟩; have hB := hB.trs h5)
        | (go_at_call 37; first | (have := tok2; refine (VOb.out _).mono ?_; rintro e w8 ⟨rfl, h8⟩; have hB := hB.trs h8) | (refine (VOa.out _).mono ?_; rintro e w7 ⟨rfl, h7⟩; have hB := hB.trs h7; have tok2 := trivial))
        | (go_at_call 26; refine (VLe.out _).mono ?_; rintro e w9 ⟨rfl, h9⟩; have hB := hB.trs h9)
        | (go_at_call 28; refine (VOn.out _).mono ?_; rintro e wA ⟨hA, A, cc, rfl, hr⟩; have hB := hB.trs hA; obtain ⟨bb, oo, rfl, hbb, q1⟩ := hr.at_ hil; rw [HLI.out] at q1; clear hr)
        | (go_at_call 22; refine (Sane_any _).mono ?_; rintro e wC ⟨rfl, hC⟩; have hB := hB.trs hC))
    go_ret
    exact ⟨rfl, hB⟩
  · subst c4
    have d1 : (n == m) = false := by simpa using c2
    have d2 : (a == b) = false := by simpa using c1
    have d3 : decide (n < m) = true := by simpa using c3
    have d5 : decide ((i : Int) + 1 < P') = true := by simpa using c5
    clear c1 c2 c3 c5
    go_enter Try.func9, Try.ntmps9
    go_wp2_with (first
        | (go_at_call 25; refine (VPx.out _).mono ?_; rintro e w1 ⟨rfl, h1⟩; have hB := HB0.out.trs h1)
        | (go_at_call 31; refine (VPl.out _).mono ?_; rintro e w2 ⟨rfl, h2⟩; have hB := hB.trs h2)
        | (go_at_call 23; refine (VNe.out _).mono ?_; rintro e w3 ⟨rfl, h3⟩; have hB := hB.trs h3)
        | (go_at_call 33; first | (have := tok1; refine (VRb.out _).mono ?_; rintro e w6 ⟨rfl, h6⟩; have hB := hB.trs h6) | (refine (VRa.out _).mono ?_; rintro e w4 ⟨rfl, h4⟩; have hB := hB.trs h4; have tok1 := trivial))
        | (go_at_call 35; refine (VFr.out _).mono ?_; rintro e w5 ⟨rfl, h5⟩; have hB := hB.trs h5)
        | (go_at_call 37; first | (have := tok2; refine (VOb.out _).mono ?_; rintro e w8 ⟨rfl, h8⟩; have hB := hB.trs h8) | (refine (VOa.out _).mono ?_; rintro e w7 ⟨rfl, h7⟩; have hB := hB.trs h7; have tok2 := trivial))
        | (go_at_call 26; refine (VLe.out _).mono ?_; rintro e w9 ⟨rfl, h9⟩; have hB := hB.trs h9)
        | (go_at_call 28; refine (VOn.out _).mono ?_; rintro e wA ⟨hA, A, cc, rfl, hr⟩; have hB := hB.trs hA; obtain ⟨bb, oo, rfl, hbb, q1⟩ := hr.at_ hil; rw [HLI.out] at q1; clear hr)
        | (go_at_call 22; refine (Sane_any _).mono ?_; rintro e wC ⟨rfl, hC⟩; have hB := hB.trs hC))
    go_quiet (fail)
    have hB := hB.drewsN nq
    go_wp2_with (first
        | (go_at_call 25; refine (VPx.out _).mono ?_; rintro e w1 ⟨rfl, h1⟩; have hB := HB0.out.trs h1)
        | (go_at_call 31; refine (VPl.out _).mono ?_; rintro e w2 ⟨rfl, h2⟩; have hB := hB.trs h2)
        | (go_at_call 23; refine (VNe.out _).mono ?_; rintro e w3 ⟨rfl, h3⟩; have hB := hB.trs h3)
        | (go_at_call 33; first | (have := tok1; refine (VRb.out _).mono ?_; rintro e w6 ⟨rfl, h6⟩; have hB := hB.trs h6) | (refine (VRa.out _).mono ?_; rintro e w4 ⟨rfl, h4⟩; have hB := hB.trs h4; have tok1 := trivial))
        | (go_at_call 35; refine (VFr.out _).mono ?_; rintro e w5 ⟨rfl, h5⟩; have hB := hB.trs h5)
        | (go_at_call 37; first | (have := tok2; refine (VOb.out _).mono ?_; rintro e w8 ⟨rfl, h8⟩; have hB := hB.trs h8) | (refine (VOa.out _).mono ?_; rintro e w7 ⟨rfl, h7⟩; have hB := hB.trs h7; have tok2 := trivial))
        | (go_at_call 26; refine (VLe.out _).mono ?_; rintro e w9 ⟨rfl, h9⟩; have hB := hB.trs h9)
        | (go_at_call 28; refine (VOn.out _).mono ?_; rintro e wA ⟨hA, A, cc, rfl, hr⟩; have hB := hB.trs hA; obtain ⟨bb, oo, rfl, hbb, q1⟩ := hr.at_ hil; rw [HLI.out] at q1; clear hr)
        | (go_at_call 22; refine (Sane_any _).mono ?_; rintro e wC ⟨rfl, hC⟩; have hB := hB.trs hC))
    go_ret
    exact ⟨rfl, hB⟩
  · skip
    have d1 : (n == m) = false := by simpa using c2
    have d2 : (a == b) = false := by simpa using c1
    have d3 : decide (n < m) = false := by simpa using c3
    have d4 : decide (R < R') = false := by simpa using c4
    have d5 : (R == R') = false := by simpa using c5
    clear c1 c2 c3 c4 c5
    go_enter Try.func9, Try.ntmps9
    go_wp2_with (first
        | (go_at_call 25; refine (VPx.out _).mono ?_; rintro e w1 ⟨rfl, h1⟩; have hB := HB0.out.trs h1)
        | (go_at_call 31; refine (VPl.out _).mono ?_; rintro e w2 ⟨rfl, h2⟩; have hB := hB.trs h2)
        | (go_at_call 23; refine (VNe.out _).mono ?_; rintro e w3 ⟨rfl, h3⟩; have hB := hB.trs h3)
        | (go_at_call 33; first | (have := tok1; refine (VRb.out _).mono ?_; rintro e w6 ⟨rfl, h6⟩; have hB := hB.trs h6) | (refine (VRa.out _).mono ?_; rintro e w4 ⟨rfl, h4⟩; have hB := hB.trs h4; have tok1 := trivial))
        | (go_at_call 35; refine (VFr.out _).mono ?_; rintro e w5 ⟨rfl, h5⟩; have hB := hB.trs h5)
        | (go_at_call 37; first | (have := tok2; refine (VOb.out _).mono ?_; rintro e w8 ⟨rfl, h8⟩; have hB := hB.trs h8) | (refine (VOa.out _).mono ?_; rintro e w7 ⟨rfl, h7⟩; have hB := hB.trs h7; have tok2 := trivial))
        | (go_at_call 26; refine (VLe.out _).mono ?_; rintro e w9 ⟨rfl, h9⟩; have hB := hB.trs h9)
        | (go_at_call 28; refine (VOn.out _).mono ?_; rintro e wA ⟨hA, A, cc, rfl, hr⟩; have hB := hB.trs hA; obtain ⟨bb, oo, rfl, hbb, q1⟩ := hr.at_ hil; rw [HLI.out] at q1; clear hr)
        | (go_at_call 22; refine (Sane_any _).mono ?_; rintro e wC ⟨rfl, hC⟩; have hB := hB.trs hC))
    go_quiet (fail)
    have hB := hB.drewsN nq
    go_wp2_with (first
        | (go_at_call 25; refine (VPx.out _).mono ?_; rintro e w1 ⟨rfl, h1⟩; have hB := HB0.out.trs h1)
        | (go_at_call 31; refine (VPl.out _).mono ?_; rintro e w2 ⟨rfl, h2⟩; have hB := hB.trs h2)
        | (go_at_call 23; refine (VNe.out _).mono ?_; rintro e w3 ⟨rfl, h3⟩; have hB := hB.trs h3)
        | (go_at_call 33; first | (have := tok1; refine (VRb.out _).mono ?_; rintro e w6 ⟨rfl, h6⟩; have hB := hB.trs h6) | (refine (VRa.out _).mono ?_; rintro e w4 ⟨rfl, h4⟩; have hB := hB.trs h4; have tok1 := trivial))
        | (go_at_call 35; refine (VFr.out _).mono ?_; rintro e w5 ⟨rfl, h5⟩; have hB := hB.trs h5)
        | (go_at_call 37; first | (have := tok2; refine (VOb.out _).mono ?_; rintro e w8 ⟨rfl, h8⟩; have hB := hB.trs h8) | (refine (VOa.out _).mono ?_; rintro e w7 ⟨rfl, h7⟩; have hB := hB.trs h7; have tok2 := trivial))
        | (go_at_call 26; refine (VLe.out _).mono ?_; rintro e w9 ⟨rfl, h9⟩; have hB := hB.trs h9)
        | (go_at_call 28; refine (VOn.out _).mono ?_; rintro e wA ⟨hA, A, cc, rfl, hr⟩; have hB := hB.trs hA; obtain ⟨bb, oo, rfl, hbb, q1⟩ := hr.at_ hil; rw [HLI.out] at q1; clear hr)
        | (go_at_call 22; refine (Sane_any _).mono ?_; rintro e wC ⟨rfl, hC⟩; have hB := hB.trs hC))
    go_ret
    exact ⟨rfl, hB⟩
  · subst c4
    have d1 : (n == m) = false := by simpa using c2
    have d2 : (a == b) = false := by simpa using c1
    have d3 : decide (n < m) = false := by simpa using c3
    have d5 : decide ((i : Int) + 1 < P') = false := by simpa using c5
    clear c1 c2 c3 c5
    go_enter Try.func9, Try.ntmps9
    go_wp2_with (first
        | (go_at_call 25; refine (VPx.out _).mono ?_; rintro e w1 ⟨rfl, h1⟩; have hB := HB0.out.trs h1)
        | (go_at_call 31; refine (VPl.out _).mono ?_; rintro e w2 ⟨rfl, h2⟩; have hB := hB.trs h2)
        | (go_at_call 23; refine (VNe.out _).mono ?_; rintro e w3 ⟨rfl, h3⟩; have hB := hB.trs h3)
        | (go_at_call 33; first | (have := tok1; refine (VRb.out _).mono ?_; rintro e w6 ⟨rfl, h6⟩; have hB := hB.trs h6) | (refine (VRa.out _).mono ?_; rintro e w4 ⟨rfl, h4⟩; have hB := hB.trs h4; have tok1 := trivial))
        | (go_at_call 35; refine (VFr.out _).mono ?_; rintro e w5 ⟨rfl, h5⟩; have hB := hB.trs h5)
        | (go_at_call 37; first | (have := tok2; refine (VOb.out _).mono ?_; rintro e w8 ⟨rfl, h8⟩; have hB := hB.trs h8) | (refine (VOa.out _).mono ?_; rintro e w7 ⟨rfl, h7⟩; have hB := hB.trs h7; have tok2 := trivial))
        | (go_at_call 26; refine (VLe.out _).mono ?_; rintro e w9 ⟨rfl, h9⟩; have hB := hB.trs h9)
        | (go_at_call 28; refine (VOn.out _).mono ?_; rintro e wA ⟨hA, A, cc, rfl, hr⟩; have hB := hB.trs hA; obtain ⟨bb, oo, rfl, hbb, q1⟩ := hr.at_ hil; rw [HLI.out] at q1; clear hr)
        | (go_at_call 22; refine (Sane_any _).mono ?_; rintro e wC ⟨rfl, hC⟩; have hB := hB.trs hC))
    go_quiet (fail)
    have hB := hB.drewsN nq
    go_wp2_with (first
        | (go_at_call 25; refine (VPx.out _).mono ?_; rintro e w1 ⟨rfl, h1⟩; have hB := HB0.out.trs h1)
        | (go_at_call 31; refine (VPl.out _).mono ?_; rintro e w2 ⟨rfl, h2⟩; have hB := hB.trs h2)
        | (go_at_call 23; refine (VNe.out _).mono ?_; rintro e w3 ⟨rfl, h3⟩; have hB := hB.trs h3)
        | (go_at_call 33; first | (have := tok1; refine (VRb.out _).mono ?_; rintro e w6 ⟨rfl, h6⟩; have hB := hB.trs h6) | (refine (VRa.out _).mono ?_; rintro e w4 ⟨rfl, h4⟩; have hB := hB.trs h4; have tok1 := trivial))
        | (go_at_call 35; refine (VFr.out _).mono ?_; rintro e w5 ⟨rfl, h5⟩; have hB := hB.trs h5)
        | (go_at_call 37; first | (have := tok2; refine (VOb.out _).mono ?_; rintro e w8 ⟨rfl, h8⟩; have hB := hB.trs h8) | (refine (VOa.out _).mono ?_; rintro e w7 ⟨rfl, h7⟩; have hB := hB.trs h7; have tok2 := trivial))
        | (go_at_call 26; refine (VLe.out _).mono ?_; rintro e w9 ⟨rfl, h9⟩; have hB := hB.trs h9)
        | (go_at_call 28; refine (VOn.out _).mono ?_; rintro e wA ⟨hA, A, cc, rfl, hr⟩; have hB := hB.trs hA; obtain ⟨bb, oo, rfl, hbb, q1⟩ := hr.at_ hil; rw [HLI.out] at q1; clear hr)
        | (go_at_call 22; refine (Sane_any _).mono ?_; rintro e wC ⟨rfl, hC⟩; have hB := hB.trs hC))
    go_ret
    exact ⟨rfl, hB⟩

theorem SkyThere_walk (w : World) (o : Int) (wo : (Lit.int .u8 o).wf = true) (p : Int) (wp : (Lit.int .u16 p).wf = true) (q : Int) (wq : (Lit.int .u16 q).wf = true) :
    Calls Try.prog 9 #[.int .u8 o, .int .u16 p, .int .u16 q] w fun e w' => e = .returned (.bool true) ∧ Below w.heap.size w w' := by
  have bo := bounds_u8 wo
  have bp := bounds_u16 wp
  have bq := bounds_u16 wq
  have hk : btw 0 (o % 5) 4 = true := by rw [btw_iff]; omega
  have hN := px_le hk
  have ha0 := Int.emod_nonneg p (show px (o % 5) ≠ 0 by omega)
  have ha1 := Int.emod_lt_of_pos p (show 0 < px (o % 5) by omega)
  have hb0 := Int.emod_nonneg q (show px (o % 5) ≠ 0 by omega)
  have hb1 := Int.emod_lt_of_pos q (show 0 < px (o % 5) by omega)
  generalize ek : o % 5 = k at *
  generalize ea : p % px k = a at *
  generalize eb : q % px k = b at *
  have hpa : okP k a = true := by unfold okP; rw [hk, btw_iff.2 ⟨ha0, by omega⟩]; rfl
  have hpb : okP k b = true := by unfold okP; rw [hk, btw_iff.2 ⟨hb0, by omega⟩]; rfl
  have hn := rgN_bounds hpa
  have hpn : okP k (rgN k a) = true := by unfold okP; rw [hk, btw_iff.2 ⟨hn.1, by omega⟩]; rfl
  obtain ⟨hnk, hnst⟩ := nst_back hpa
  have hfr := frm_eq hpa rfl
  have hpl := place_facts hpa
  have hrb := ring_bounds hpa
  have hlb := lenS_bound (sd_b hk) hrb
  have hor : okR k (pR k a) = true := by unfold okR; rw [hk, btw_iff.2 hrb]; rfl
  have hlt := rgN_lt hpa hpb
  have hlt2 := rgN_lt hpb hpa
  refine SkyThere_gen w o p q k (px k) a b (fF k a) (fX k a) (fY k a) (rgN k a) (rgN k b) (pR k a) (pP k a) (pR k b) (pP k b) (lenS (sd k) (pR k a)) (onL k (pR k a)) bo.1 (by omega) bp.1 (by omega) bq.1 (by omega) ek hN.1 hN.2 ea eb hn.1 hn.2 ?_ hpl.1.1 hpl.1.2 (by omega) (by rw [onL_len]; omega) ?_ (fun W => ?_) (fun W => ?_) (fun W => ?_) (fun W => ?_) (fun W => ?_) (fun W => ?_) (fun W => ?_) (fun W => ?_) (fun W => ?_) (fun W => ?_)
  · by_cases e : a = b
    · subst e; exact .inl ⟨rfl, rfl, rfl, rfl⟩
    · have hne : ¬ rgN k a = rgN k b := fun h => e (rgN_inj hpa hpb h)
      by_cases h1 : rgN k a < rgN k b
      · rcases hlt.1 h1 with h2 | ⟨h2, h3⟩
        · exact .inr (.inl ⟨e, hne, h1, h2⟩)
        · exact .inr (.inr (.inl ⟨e, hne, h1, h2, h3⟩))
      · rcases hlt2.1 (by omega) with h2 | ⟨h2, h3⟩
        · exact .inr (.inr (.inr (.inl ⟨e, hne, h1, by omega, by omega⟩)))
        · exact .inr (.inr (.inr (.inr ⟨e, hne, h1, h2.symm, by omega⟩)))
  · rw [ix_onL (by omega), show ((pP k a - 1).toNat : Int) + 1 = pP k a by omega]; exact hpl.2
  · have := Pixels_any k W; rw [PixV, hk] at this; exact this
  · have := Place_any k a W; rw [PlaceV, hpa] at this; exact this
  · have := Nested_any k (fF k a) (fX k a) (fY k a) W; rw [NstV, hk, hnk, hnst] at this; exact this
  · have := Ring_any k a W; rw [RingV, hpa] at this; exact this
  · have := Ring_any k b W; rw [RingV, hpb] at this; exact this
  · have := FromRing_any k (rgN k a) W; rw [FrmV, hpn, hfr] at this; exact this
  · have := RingOf_any k a W; rw [RingOfV, hpa] at this; exact this
  · have := RingOf_any k b W; rw [RingOfV, hpb] at this; exact this
  · have := Length_any k (pR k a) W; rw [LenV, hor] at this; exact this
  · have := On_any k (pR k a) W; rw [OnLs, OnE, hor] at this; exact this
end Go.Proofs.Ytolgpigdioanoaa
