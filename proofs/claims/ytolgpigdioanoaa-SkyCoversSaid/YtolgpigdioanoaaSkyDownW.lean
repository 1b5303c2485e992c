/- The walk over the law SkyDown. -/
import Derived.Test.YtolgpigdioanoaaSkyE
import Derived.OpenShut
namespace Go.Proofs.Ytolgpigdioanoaa
set_option linter.unusedSimpArgs false
set_option linter.unusedVariables false
open Go.RowKit

/-! ### plain law -/
theorem px_lit : px 0 = 12 ∧ px 1 = 48 ∧ px 2 = 192 ∧ px 3 = 768 ∧ px 4 = 3072 := by decide
theorem okP_iff {k p : Int} (hk : btw 0 k 4 = true) : okP k p = true ↔ 0 ≤ p ∧ p ≤ px k - 1 := by rw [okP, hk, Bool.true_and, btw_iff]
theorem okP_up {k t a : Int} (hk : btw 0 k 4 = true) (ht : 0 ≤ t ∧ t ≤ k) (ha : okP k a = true) : okP t (upV k a t) = true := by
  have ht4 : btw 0 t 4 = true := by rw [btw_iff] at hk ⊢; omega
  rw [okP_iff hk] at ha
  rw [okP_iff ht4]
  obtain ⟨p0, p1, p2, p3, p4⟩ := px_lit
  have hk2 := ord_cases hk
  clear hk ht4

  have c0 : a / 2 ^ (2 * (0 : Int)).toNat = a / 1 := rfl
  have c1 : a / 2 ^ (2 * (1 : Int)).toNat = a / 4 := rfl
  have c2 : a / 2 ^ (2 * (2 : Int)).toNat = a / 16 := rfl
  have c3 : a / 2 ^ (2 * (3 : Int)).toNat = a / 64 := rfl
  have c4 : a / 2 ^ (2 * (4 : Int)).toNat = a / 256 := rfl
  unfold upV
  have hk' : k = 0 ∨ k = 1 ∨ k = 2 ∨ k = 3 ∨ k = 4 := hk2
  have ht' : t = 0 ∨ t = 1 ∨ t = 2 ∨ t = 3 ∨ t = 4 := by omega
  have hd : (k - t = 0 ∧ px k = px t) ∨ (k - t = 1 ∧ px k = 4 * px t) ∨ (k - t = 2 ∧ px k = 16 * px t) ∨ (k - t = 3 ∧ px k = 64 * px t) ∨ (k - t = 4 ∧ px k = 256 * px t) := by
    rcases hk' with rfl | rfl | rfl | rfl | rfl <;> rcases ht' with rfl | rfl | rfl | rfl | rfl <;> omega
  rcases hd with ⟨h, hp⟩ | ⟨h, hp⟩ | ⟨h, hp⟩ | ⟨h, hp⟩ | ⟨h, hp⟩ <;> rw [h]
  · rw [c0]; omega
  · rw [c1]; omega
  · rw [c2]; omega
  · rw [c3]; omega
  · rw [c4]; omega
theorem up_up {k t s a : Int} (hk : btw 0 k 4 = true) (ht : 0 ≤ t ∧ t ≤ k) (hs : 0 ≤ s ∧ s ≤ t) (ha : 0 ≤ a) : upV t (upV k a t) s = upV k a s := by
  unfold upV
  rw [Int.ediv_ediv_of_nonneg (Int.pow_nonneg (by decide)), ← Int.pow_add]
  congr 2
  omega
theorem kid_up {k a i : Int} (hk : 0 ≤ k ∧ k ≤ 3) (ha : okP k a = true) (hi : 0 ≤ i ∧ i ≤ 3) : okP (k + 1) (4 * a + i) = true ∧ upV (k + 1) (4 * a + i) k = a := by
  have hk4 : btw 0 k 4 = true := by rw [btw_iff]; omega
  have hk5 : btw 0 (k + 1) 4 = true := by rw [btw_iff]; omega
  rw [okP_iff hk4] at ha
  rw [okP_iff hk5]
  obtain ⟨p0, p1, p2, p3, p4⟩ := px_lit
  have hp : px (k + 1) = 4 * px k := by
    rcases (show k = 0 ∨ k = 1 ∨ k = 2 ∨ k = 3 by omega) with rfl | rfl | rfl | rfl <;> decide
  refine ⟨by omega, ?_⟩
  unfold upV
  rw [show (2 * (k + 1 - k)).toNat = 2 by omega]
  show (4 * a + i) / 4 = a
  omega

theorem Pixels_ok (k : Int) (w : World) (hk : btw 0 k 4 = true) :
    Calls Try.prog 25 #[.int .i64 k] w fun e w' => e = .returned (.tuple #[.int .i64 (px k), .int .i64 0]) ∧ Below w.heap.size w w' := by
  have HO := Lib.hid (fun W => open_ok k W hk)
  have HP := Lib.hid (fun W => pixels_s k (sd k) W (sd_cases hk))
  rw [show 12 * sd k * sd k = px k from rfl] at HP
  clear hk
  generalize px k = m at *
  generalize sd k = s at *
  go_enter Try.func25, Try.ntmps25
  go_wp2_with (first
    | (go_at_call 76; refine (HO.out _).mono ?_; rintro e w1 ⟨rfl, h1⟩)
    | (go_at_call 77; refine (HP.out _).mono ?_; rintro e w2 ⟨rfl, h2⟩))
  go_ret2
  exact ⟨rfl, (h1.trs (below_alloc _ _)).trs h2⟩

theorem Up_ok (k p t : Int) (w : World) (h : okP k p = true) (ht : 0 ≤ t ∧ t ≤ k) :
    Calls Try.prog 17 #[.int .i64 k, .int .i64 p, .int .i64 t] w fun e w' => e = .returned (.tuple #[.int .i64 (upV k p t), .int .i64 0]) ∧ Below w.heap.size w w' := by
  have := Up_any k p t w
  rw [h, btw_iff.2 ht] at this
  exact this
theorem Children_ok (k p : Int) (w : World) (h : okP k p = true) (hk : k ≠ 4) : Calls Try.prog 19 #[.int .i64 k, .int .i64 p] w (IntsRet [4 * p, 4 * p + 1, 4 * p + 2, 4 * p + 3] 0 w) := by
  have := Children_any k p w
  simp only [kidsL, kidsE, h, hk, if_true, if_false] at this
  exact this

/-- the walk, all numbers letters -/
def UpTo (k p t v : Int) : Prop := ∀ W, Calls Try.prog 17 #[.int .i64 k, .int .i64 p, .int .i64 t] W fun e w' => e = .returned (.tuple #[.int .i64 v, .int .i64 0]) ∧ Below W.heap.size W w'

set_option maxRecDepth 100000 in
set_option maxHeartbeats 2000000 in
theorem SkyDown_gen (w : World) (o p t0 t1 k k1 m a l0 l1 l2 l3 f f1 g x y : Int)
    (o0 : 0 ≤ o) (o1 : o < 256) (p0 : 0 ≤ p) (p1 : p < 65536) (t00 : 0 ≤ t0) (t01 : t0 < 256) (t10 : 0 ≤ t1) (t11 : t1 < 256)
    (ek : o % 4 = k) (hm : 1 ≤ m) (ea : p % m = a) (ek1 : IntKind.i64.wrap (k + 1) = k1) (hk1 : 1 ≤ k1) (ef : t0 % k1 = f) (ef1 : IntKind.i64.wrap (f + 1) = f1) (hf1 : 1 ≤ f1) (eg : t1 % f1 = g)
    (e01 : IntKind.i64.wrap (l0 + 1) = l1) (e12 : IntKind.i64.wrap (l1 + 1) = l2) (e23 : IntKind.i64.wrap (l2 + 1) = l3)
    (HPx : ∀ W, Calls Try.prog 25 #[.int .i64 k] W fun e w' => e = .returned (.tuple #[.int .i64 m, .int .i64 0]) ∧ Below W.heap.size W w')
    (HCh : ∀ W, Calls Try.prog 19 #[.int .i64 k, .int .i64 a] W (IntsRet [l0, l1, l2, l3] 0 W))
    (U0 : UpTo k1 l0 k a) (U1 : UpTo k1 l1 k a) (U2 : UpTo k1 l2 k a) (U3 : UpTo k1 l3 k a) (UX : UpTo k a f x) (UY : UpTo f x g y) (UZ : UpTo k a g y) :
    Calls Try.prog 5 #[.int .u8 o, .int .u16 p, .agg #[.int .u8 t0, .int .u8 t1]] w fun e w' => e = .returned (.bool true) ∧ Below w.heap.size w w' := by
  have V0 := Lib.hid U0; have V1 := Lib.hid U1; have V2 := Lib.hid U2; have V3 := Lib.hid U3; have VX := Lib.hid UX; have VY := Lib.hid UY; have VZ := Lib.hid UZ; have VP := Lib.hid HPx; have VC := Lib.hid HCh
  clear U0 U1 U2 U3 UX UY UZ HPx HCh
  have s1 : IntKind.i64.wrap o = o := IntWalk.i64_in _ (by omega)
  have s2 : IntKind.i64.wrap p = p := IntWalk.i64_in _ (by omega)
  have s3 : IntKind.i64.wrap t0 = t0 := IntWalk.i64_in _ (by omega)
  have s4 : IntKind.i64.wrap t1 = t1 := IntWalk.i64_in _ (by omega)
  have s1' : wrap64 o = o := IntWalk.wrap64_in _ (by omega)
  have s2' : wrap64 p = p := IntWalk.wrap64_in _ (by omega)
  have s3' : wrap64 t0 = t0 := IntWalk.wrap64_in _ (by omega)
  have s4' : wrap64 t1 = t1 := IntWalk.wrap64_in _ (by omega)
  have m0 : ¬ m = 0 := by omega
  have m1 : ¬ k1 = 0 := by omega
  have m2 : ¬ f1 = 0 := by omega
  have m3 : ¬ m < 1 := by omega
  have n1 : o.tmod 4 = k := by rw [Int.tmod_eq_emod_of_nonneg o0]; exact ek
  have n2 : p.tmod m = a := by rw [Int.tmod_eq_emod_of_nonneg p0]; exact ea
  have n3 : t0.tmod k1 = f := by rw [Int.tmod_eq_emod_of_nonneg t00]; exact ef
  have n4 : t1.tmod f1 = g := by rw [Int.tmod_eq_emod_of_nonneg t10]; exact eg
  have bx := Box.new w 35 #[.int .u8 t0, .int .u8 t1]
  have HBX := Lib.hid bx; clear bx
  have hB0 := below_alloc w (.cells #[.int .u8 t0, .int .u8 t1] 35)
  go_enter Try.func5, Try.ntmps5
  go_wp2_with (first
    | (go_at_call 25; refine (VP.out _).mono ?_; rintro e w1 ⟨rfl, h1⟩)
    | (go_at_call 19; refine (VC.out _).mono ?_; rintro e w2 ⟨h2, A, c, rfl, hr⟩; obtain ⟨b, oo, rfl, hb, c0⟩ := hr.at_ (k := 0) (by simp); obtain ⟨_, _, he1, _, c1⟩ := hr.at_ (k := 1) (by simp); injection he1 with he1; injection he1 with ha1 hb1 _; subst ha1; subst hb1; obtain ⟨_, _, he1, _, c2⟩ := hr.at_ (k := 2) (by simp); injection he1 with he1; injection he1 with ha1 hb1 _; subst ha1; subst hb1; obtain ⟨_, _, he1, _, c3⟩ := hr.at_ (k := 3) (by simp); injection he1 with he1; injection he1 with ha1 hb1 _; subst ha1; subst hb1; clear hr; have C0 := Lib.hid c0; have C1 := Lib.hid c1; have C2 := Lib.hid c2; have C3 := Lib.hid c3; clear c0 c1 c2 c3))
  have hB2 := (hB0.trs h1).trs h2
  go_loopg [12, 13, 14] 4 (fun kk s t u wr => ∃ i : Nat, s = .int .i64 i ∧ i ≤ 4 ∧ 4 - i ≤ kk ∧ Below w2.heap.size w2 wr)
  case atStart => exact ⟨0, rfl, by omega, by omega, Below.refl _ _⟩
  case round =>
    obtain ⟨i, rfl, hi, hk, hB⟩ := hrel
    have c0 := C0.out; have c1 := C1.out; have c2 := C2.out; have c3 := C3.out
    rw [← hB.cell hb] at c0 c1 c2 c3
    simp only [ix, List.getD_cons_zero, List.getD_cons_succ, Nat.add_zero] at c0 c1 c2 c3
    rcases (show i = 0 ∨ i = 1 ∨ i = 2 ∨ i = 3 ∨ i = 4 by omega) with rfl | rfl | rfl | rfl | rfl
    · go_wp2_with (go_at_call 17; refine (V0.out _).mono ?_; rintro e w4 ⟨rfl, h4⟩; have b0 := c0; have b1 := c1; have b2 := c2; have b3 := c3; rw [← h4.cell (Nat.lt_of_lt_of_le hb hB.size)] at b0 b1 b2 b3)
      go_quiet (fail)
      go_wp2_with fail
      go_roundg 3
      case measure => omega
      case rel => exact ⟨1, rfl, by omega, by omega, (hB.trs h4).drewsN _⟩
    · go_wp2_with (go_at_call 17; refine (V1.out _).mono ?_; rintro e w4 ⟨rfl, h4⟩; have b0 := c0; have b1 := c1; have b2 := c2; have b3 := c3; rw [← h4.cell (Nat.lt_of_lt_of_le hb hB.size)] at b0 b1 b2 b3)
      go_quiet (fail)
      go_wp2_with fail
      go_roundg 2
      case measure => omega
      case rel => exact ⟨2, rfl, by omega, by omega, (hB.trs h4).drewsN _⟩
    · go_wp2_with (go_at_call 17; refine (V2.out _).mono ?_; rintro e w4 ⟨rfl, h4⟩; have b0 := c0; have b1 := c1; have b2 := c2; have b3 := c3; rw [← h4.cell (Nat.lt_of_lt_of_le hb hB.size)] at b0 b1 b2 b3)
      go_quiet (fail)
      go_wp2_with fail
      go_roundg 1
      case measure => omega
      case rel => exact ⟨3, rfl, by omega, by omega, (hB.trs h4).drewsN _⟩
    · go_wp2_with (go_at_call 17; refine (V3.out _).mono ?_; rintro e w4 ⟨rfl, h4⟩; have b0 := c0; have b1 := c1; have b2 := c2; have b3 := c3; rw [← h4.cell (Nat.lt_of_lt_of_le hb hB.size)] at b0 b1 b2 b3)
      go_quiet (fail)
      go_wp2_with fail
      go_roundg 0
      case measure => omega
      case rel => exact ⟨4, rfl, by omega, by omega, (hB.trs h4).drewsN _⟩
    · clear c0 c1 c2 c3
      have hBw := hB2.trs hB
      obtain ⟨⟨d0, d1⟩, -, -⟩ := ((((HBX.out).on h1).on h2).on hB).two
      go_wp2_with (first
        | (go_at_call 17; first
            | (have q := y2; refine (VZ.out _).mono ?_; rintro e w6 ⟨rfl, y3⟩)
            | (have q := y1; refine (VY.out _).mono ?_; rintro e w5 ⟨rfl, y2⟩)
            | (refine (VX.out _).mono ?_; rintro e w4 ⟨rfl, y1⟩; obtain ⟨⟨d2, d3⟩, -, -⟩ := ((((HBX.out).on h1).on h2).on hB).two))
        | (go_at_call 22; refine (Sane_any _).mono ?_; rintro e w7 ⟨rfl, y4⟩))
      go_ret
      exact ⟨rfl, (((hBw.trs y1).trs y2).trs y3).trs y4⟩

theorem SkyDown_walk (w : World) (o : Int) (wo : (Lit.int .u8 o).wf = true) (p : Int) (wp : (Lit.int .u16 p).wf = true) (t0 t1 : Int) (wt : (Lit.int .u8 t0).wf = true ∧ (Lit.int .u8 t1).wf = true) :
    Calls Try.prog 5 #[.int .u8 o, .int .u16 p, .agg #[.int .u8 t0, .int .u8 t1]] w fun e w' => e = .returned (.bool true) ∧ Below w.heap.size w w' := by
  have bo := bounds_u8 wo
  have bp := bounds_u16 wp
  have b0 := bounds_u8 wt.1
  have b1 := bounds_u8 wt.2
  have hk : 0 ≤ o % 4 ∧ o % 4 ≤ 3 := by omega
  have hk4 : btw 0 (o % 4) 4 = true := by rw [btw_iff]; omega
  have hm := px_le hk4
  have ha0 := Int.emod_nonneg p (show px (o % 4) ≠ 0 by omega)
  have ha1 := Int.emod_lt_of_pos p (show 0 < px (o % 4) by omega)
  have ha : okP (o % 4) (p % px (o % 4)) = true := (okP_iff hk4).2 (by omega)
  have hf0 := Int.emod_nonneg t0 (show o % 4 + 1 ≠ 0 by omega)
  have hf1 := Int.emod_lt_of_pos t0 (show 0 < o % 4 + 1 by omega)
  have hg0 := Int.emod_nonneg t1 (show t0 % (o % 4 + 1) + 1 ≠ 0 by omega)
  have hg1 := Int.emod_lt_of_pos t1 (show 0 < t0 % (o % 4 + 1) + 1 by omega)
  generalize ek : o % 4 = k at *
  generalize ea : p % px k = a at *
  generalize ef : t0 % (k + 1) = f at *
  generalize eg : t1 % (f + 1) = g at *
  have hpb := okP_p ha
  have kid : ∀ i, 0 ≤ i → i ≤ 3 → UpTo (k + 1) (4 * a + i) k a := fun i h0 h3 W => by
    obtain ⟨q1, q2⟩ := kid_up hk ha ⟨h0, h3⟩
    have := Up_ok (k + 1) (4 * a + i) k W q1 (by omega)
    rwa [q2] at this
  have k0 := kid 0 (by omega) (by omega)
  rw [Int.add_zero] at k0
  have hy := up_up (a := a) hk4 (t := f) (s := g) (by omega) (by omega) (by omega)
  exact SkyDown_gen w o p t0 t1 k (k + 1) (px k) a (4 * a) (4 * a + 1) (4 * a + 2) (4 * a + 3) f (f + 1) g (upV k a f) (upV k a g) (by omega) (by omega) (by omega) (by omega) (by omega) (by omega) (by omega) (by omega)
    ek (by omega) ea (IntWalk.i64_in _ (by omega)) (by omega) ef (IntWalk.i64_in _ (by omega)) (by omega) eg (IntWalk.i64_in _ (by omega)) (by rw [Int.add_assoc]; exact IntWalk.i64_in _ (by omega)) (by rw [Int.add_assoc]; exact IntWalk.i64_in _ (by omega))
    (fun W => Pixels_ok k W hk4) (fun W => Children_ok k a W ha (by omega)) k0 (kid 1 (by omega) (by omega)) (kid 2 (by omega) (by omega)) (kid 3 (by omega) (by omega))
    (fun W => Up_ok k a f W ha (by omega)) (fun W => by have := Up_ok f (upV k a f) g W (okP_up hk4 (by omega) ha) (by omega); rwa [hy] at this) (fun W => Up_ok k a g W ha (by omega))
end Go.Proofs.Ytolgpigdioanoaa
