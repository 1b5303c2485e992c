/- Walks over package sky and its reference: nested numbers, second part; the law SkyNested. -/
import Derived.Test.YtolgpigdioanoaaSkyF
namespace Go.Proofs.Ytolgpigdioanoaa
set_option linter.unusedSimpArgs false
set_option linter.unusedVariables false
open Go.RowKit

/-- there is the place -/
def okN (k f x y : Int) : Bool := btw 0 f 11 && btw 0 x (sd k - 1) && btw 0 y (sd k - 1)
def nst (k f x y : Int) : Int := f * sd k * sd k + btF k.toNat x y

theorem fin16 {k x : Int} (hk : btw 0 k 4 = true) (hx : btw 0 x (sd k - 1) = true) : ∃ a : Fin 16, x = (a.val : Int) ∧ (a.val : Int) < 2 ^ k.toNat := by
  rw [btw_iff] at hx
  have hs : sd k ≤ 16 := by rcases sd_cases hk with h | h | h | h | h <;> omega
  refine ⟨⟨x.toNat, by omega⟩, by simp; omega, ?_⟩
  show ((x.toNat : Nat) : Int) < 2 ^ k.toNat
  have : sd k = 2 ^ k.toNat := rfl
  omega

set_option maxRecDepth 100000 in
set_option maxHeartbeats 1000000 in
theorem nested_gen (G : Int → Int) (k s f x y : Int) (w : World) (hG : ∀ c W, (c = x ∨ c = y) → Calls Try.prog 128 #[.int .i64 c] W fun e w' => e = .returned (.int .i64 (G c)) ∧ W = w')
    (h1 : IntKind.i64.wrap (f * s) = f * s) (h1' : wrap64 (f * s) = f * s) (h2 : IntKind.i64.wrap (f * s * s) = f * s * s) (h2' : wrap64 (f * s * s) = f * s * s)
    (h3 : IntKind.i64.wrap (f * s * s + G x) = f * s * s + G x) (h4 : IntKind.i64.wrap (2 * G y) = 2 * G y) (h4' : wrap64 (2 * G y) = 2 * G y) (h5 : IntKind.i64.wrap (f * s * s + G x + 2 * G y) = f * s * s + G x + 2 * G y) :
    Calls Try.prog 72 #[.agg #[.int .i64 k, .int .i64 s], .agg #[.int .i64 f, .int .i64 x, .int .i64 y]] w fun e w' => e = .returned (.int .i64 (f * s * s + G x + 2 * G y)) ∧ Below w.heap.size w w' := by
  have HG := Lib.hid hG; clear hG
  have hb0 := below_alloc w (.cells #[.int .i64 k, .int .i64 s] 68)
  have hbx := Box.new (w.alloc (.cells #[.int .i64 k, .int .i64 s] 68)) 77 #[.int .i64 f, .int .i64 x, .int .i64 y]
  have hbs := (Box.new w 68 #[.int .i64 k, .int .i64 s]).alloc (.cells #[.int .i64 f, .int .i64 x, .int .i64 y] 77)
  rw [World.size_alloc] at hbx
  obtain ⟨⟨c0, c1⟩, -, -⟩ := hbs.two
  obtain ⟨⟨d0, d1, d2⟩, -, -, -⟩ := hbx.three
  clear hbs hbx
  go_enter Try.func72, Try.ntmps72
  go_wp2_with fail
  go_quiet ((go_at_call 128; exact quiet_left (HG.out _ _ (by first | exact .inl rfl | exact .inr rfl))))
  go_wp2_with fail
  go_ret
  exact ⟨rfl, (hb0.trs (below_alloc _ _)).drewsN _⟩

theorem nested1_any (k f x y : Int) (g1 g2 g3 : Nat) (w : World) (hk : btw 0 k 4 = true) (h1 : w.cell? ⟨g1, 0, none⟩ = some (.int .i64 f)) (h2 : w.cell? ⟨g2, 0, none⟩ = some (.int .i64 x)) (h3 : w.cell? ⟨g3, 0, none⟩ = some (.int .i64 y)) (l1 : g1 < w.heap.size) (l2 : g2 < w.heap.size) (l3 : g3 < w.heap.size) :
    Calls Try.prog 71 #[.agg #[.int .i64 k, .int .i64 (sd k)], .pointer (some ⟨g1, 0, none⟩), .pointer (some ⟨g2, 0, none⟩), .pointer (some ⟨g3, 0, none⟩)] w fun e w' => e = .returned (.bool (okN k f x y)) ∧ Below w.heap.size w w' := by
  have hb := below_alloc w (.cells #[.int .i64 k, .int .i64 (sd k)] 68)
  rw [← hb.cell l1] at h1
  rw [← hb.cell l2] at h2
  rw [← hb.cell l3] at h3
  have hw : IntKind.i64.wrap (sd k - 1) = sd k - 1 := IntWalk.i64_in _ (by rcases sd_cases hk with h | h | h | h | h <;> omega)
  have ho : okN k f x y = (btw 0 f 11 && btw 0 x (sd k - 1) && btw 0 y (sd k - 1)) := rfl
  clear hk
  generalize okN k f x y = r at *
  generalize sd k = s at *
  have HO := Lib.hid ho; clear ho
  have HF := Lib.hid (fun W => between_any 0 f 11 W)
  have HX := Lib.hid (fun W => between_any 0 x (s - 1) W)
  cases hf : btw 0 f 11
  · rw [hf] at HF HO
    clear hf
    go_enter Try.func71, Try.ntmps71
    go_wp2_with (go_at_call 63; refine (HF.out _).mono ?_; rintro e w' ⟨rfl, rfl⟩)
    go_ret
    exact ⟨ret_bool (by rw [HO.out]; rfl), hb⟩
  · cases hx : btw 0 x (s - 1)
    all_goals
      rw [hf, hx] at HO
      rw [hf] at HF
      rw [hx] at HX
      clear hf hx
      go_enter Try.func71, Try.ntmps71
      go_wp2_with (go_at_call 63; first | (have := hF1; have := hX1; refine (between_any _ _ _ _).mono ?_; rintro e w' ⟨rfl, rfl⟩) | (have := hF1; refine (HX.out _).mono ?_; rintro e w' ⟨rfl, rfl⟩; have hX1 := hb) | (refine (HF.out _).mono ?_; rintro e w' ⟨rfl, rfl⟩; have hF1 := hb))
      go_ret
      exact ⟨ret_bool (by rw [HO.out]; simp), hb⟩

theorem nested_any (k f x y : Int) (w : World) (hk : btw 0 k 4 = true) (hn : okN k f x y = true) :
    Calls Try.prog 72 #[.agg #[.int .i64 k, .int .i64 (sd k)], .agg #[.int .i64 f, .int .i64 x, .int .i64 y]] w fun e w' => e = .returned (.int .i64 (nst k f x y)) ∧ Below w.heap.size w w' := by
  simp only [okN, Bool.and_eq_true] at hn
  obtain ⟨⟨hf, hx⟩, hy⟩ := hn
  obtain ⟨a, rfl, ha⟩ := fin16 hk hx
  obtain ⟨b, rfl, hb⟩ := fin16 hk hy
  have hfb := btw_iff.1 hf
  have bA := btF_bound a
  have bB := btF_bound b
  have hkk := btw_iff.1 hk
  have hsp := btF_split ⟨k.toNat, by omega⟩ a b ha hb
  have hs : 0 ≤ f * sd k ∧ f * sd k ≤ 176 ∧ 0 ≤ f * sd k * sd k ∧ f * sd k * sd k ≤ 2816 := by
    rcases sd_cases hk with h | h | h | h | h <;> rw [h] <;> omega
  have := nested_gen (fun c => btF 4 c 0) k (sd k) f a.val b.val w (fun c W hc => by rcases hc with rfl | rfl <;> exact spread_fin _ W) (IntWalk.i64_in _ (by omega)) (IntWalk.wrap64_in _ (by omega)) (IntWalk.i64_in _ (by omega)) (IntWalk.wrap64_in _ (by omega)) (IntWalk.i64_in _ (by omega)) (IntWalk.i64_in _ (by omega)) (IntWalk.wrap64_in _ (by omega)) (IntWalk.i64_in _ (by omega))
  have he : f * sd k * sd k + btF 4 a.val 0 + 2 * btF 4 b.val 0 = nst k f a.val b.val := by rw [Int.add_assoc, hsp]; rfl
  rw [he] at this
  exact this

def NstV (k f x y : Int) : Value := if btw 0 k 4 && okN k f x y then .tuple #[.int .i64 (nst k f x y), .int .i64 0] else .tuple #[.int .i64 0, .int .i64 2]

set_option maxHeartbeats 1000000 in
theorem Nested_any (k f x y : Int) (w : World) :
    Calls Try.prog 23 #[.int .i64 k, .int .i64 f, .int .i64 x, .int .i64 y] w fun e w' => e = .returned (NstV k f x y) ∧ Below w.heap.size w w' := by
  have hB0 : Below w.heap.size w (((w.alloc (.cells #[.int .i64 f] 3)).alloc (.cells #[.int .i64 x] 3)).alloc (.cells #[.int .i64 y] 3)) := ((below_alloc w _).trs (below_alloc _ _)).trs (below_alloc _ _)
  obtain ⟨q1, q2, q3⟩ := three_boxes w (.int .i64 f) (.int .i64 x) (.int .i64 y) 3
  cases hk : btw 0 k 4
  · have HA := Lib.hid (fun f W => asked_no k f W hk)
    have HV : Hid (NstV k f x y = .tuple #[.int .i64 0, .int .i64 2]) := Lib.hid (by simp [NstV, hk])
    clear hk q1 q2 q3
    go_enter Try.func23, Try.ntmps23
    go_wp2_with (go_at_call 70; refine (HA.out _ _).mono ?_; rintro e w1 ⟨rfl, h1⟩)
    go_ret2
    exact ⟨(by rw [HV.out]; first | done | rfl), (hB0.trs h1).trs (below_alloc _ _)⟩
  · have HA := Lib.hid (fun r (h : PredS 71 #[.pointer (some ⟨w.heap.size, 0, none⟩), .pointer (some ⟨w.heap.size + 1, 0, none⟩), .pointer (some ⟨w.heap.size + 1 + 1, 0, none⟩)] k r (((w.alloc (.cells #[.int .i64 f] 3)).alloc (.cells #[.int .i64 x] 3)).alloc (.cells #[.int .i64 y] 3))) => asked_is k 71 #[.pointer (some ⟨w.heap.size, 0, none⟩), .pointer (some ⟨w.heap.size + 1, 0, none⟩), .pointer (some ⟨w.heap.size + 1 + 1, 0, none⟩)] r _ hk (enters_of Try.func71 (by kernel_rfl) rfl) h)
    have HP : PredS 71 #[.pointer (some ⟨w.heap.size, 0, none⟩), .pointer (some ⟨w.heap.size + 1, 0, none⟩), .pointer (some ⟨w.heap.size + 1 + 1, 0, none⟩)] k (okN k f x y) (((w.alloc (.cells #[.int .i64 f] 3)).alloc (.cells #[.int .i64 x] 3)).alloc (.cells #[.int .i64 y] 3)) := by
      intro W hW
      have hs := hW.size
      simp only [World.size_alloc] at hs
      exact nested1_any k f x y w.heap.size (w.heap.size + 1) (w.heap.size + 1 + 1) W hk (by rw [hW.cell (by simp; omega)]; exact q1) (by rw [hW.cell (by simp)]; exact q2) (by rw [hW.cell (by simp)]; exact q3) (by omega) (by omega) (by omega)
    have HQ := Lib.hid (HA.out _ HP); clear HA HP
    cases hn : okN k f x y
    · have HV : Hid (NstV k f x y = .tuple #[.int .i64 0, .int .i64 2]) := Lib.hid (by simp [NstV, hk, hn])
      rw [hn] at HQ
      clear hk hn q1 q2 q3
      generalize sd k = s at *
      go_enter Try.func23, Try.ntmps23
      go_wp2_with (go_at_call 70; refine HQ.out.mono ?_; rintro e w1 ⟨rfl, h1⟩)
      go_ret2
      exact ⟨(by rw [HV.out]; first | done | rfl), (hB0.trs h1).trs (below_alloc _ _)⟩
    · have HV : Hid (NstV k f x y = .tuple #[.int .i64 (nst k f x y), .int .i64 0]) := Lib.hid (by simp [NstV, hk, hn])
      have HN := Lib.hid (fun W => nested_any k f x y W hk hn)
      rw [hn] at HQ
      clear hk hn
      have Q1 := Lib.hid q1; have Q2 := Lib.hid q2; have Q3 := Lib.hid q3
      clear q1 q2 q3
      generalize sd k = s at *
      generalize nst k f x y = v at *
      go_enter Try.func23, Try.ntmps23
      go_wp2_with (first
        | (go_at_call 70; refine HQ.out.mono ?_; rintro e w1 ⟨rfl, h1⟩; have h1a := h1.trs (below_alloc w1 (.cells #[.int .i64 k, .int .i64 s] 68)); have q1 := Q1.out; have q2 := Q2.out; have q3 := Q3.out; rw [← h1a.cell (by simp; omega)] at q1; rw [← h1a.cell (by simp)] at q2; rw [← h1a.cell (by simp)] at q3)
        | (go_at_call 72; refine (HN.out _).mono ?_; rintro e w2 ⟨rfl, h2⟩))
      go_ret2
      exact ⟨(by rw [HV.out]; first | done | rfl), (hB0.trs h1a).trs h2⟩

theorem refbits_any (k x y : Int) (w : World) (hk : btw 0 k 4 = true) (hx : btw 0 x (sd k - 1) = true) (hy : btw 0 y (sd k - 1) = true) :
    Calls Try.prog 75 #[.int .i64 k, .int .i64 x, .int .i64 y] w fun e w' => e = .returned (.int .i64 (btF k.toNat x y)) ∧ Below w.heap.size w w' := by
  obtain ⟨a, rfl, ha⟩ := fin16 hk hx
  obtain ⟨b, rfl, hb⟩ := fin16 hk hy
  have hkk := btw_iff.1 hk
  have := bits_fin ⟨k.toNat, by omega⟩ a b w
  simp only [show ((k.toNat : Nat) : Int) = k by omega] at this
  exact this

set_option maxHeartbeats 1000000 in
theorem refNested_any (k f x y : Int) (w : World) :
    Calls Try.prog 24 #[.int .i64 k, .int .i64 f, .int .i64 x, .int .i64 y] w fun e w' => e = .returned (NstV k f x y) ∧ Below w.heap.size w w' := by
  have HO := Lib.hid (fun W => isOrder_any k W)
  have HF := Lib.hid (fun W => within_any 0 f 11 W)
  cases hk : btw 0 k 4
  · have HV : Hid (NstV k f x y = .tuple #[.int .i64 0, .int .i64 2]) := Lib.hid (by simp [NstV, hk])
    rw [hk] at HO
    clear hk
    go_enter Try.func24, Try.ntmps24
    go_wp2_with (go_at_call 73; refine (HO.out _).mono ?_; rintro e w' ⟨rfl, rfl⟩)
    go_ret2
    exact ⟨(by rw [HV.out]; first | done | rfl), Below.refl _ _⟩
  · have HS := Lib.hid (fun W => side_any k W hk)
    have hw : IntKind.i64.wrap (sd k - 1) = sd k - 1 := IntWalk.i64_in _ (by rcases sd_cases hk with h | h | h | h | h <;> omega)
    have HX := Lib.hid (fun W => within_any 0 x (sd k - 1) W)
    have HY := Lib.hid (fun W => within_any 0 y (sd k - 1) W)
    have HBI := Lib.hid (fun W => refbits_any k x y W hk)
    have hok : okN k f x y = (btw 0 f 11 && btw 0 x (sd k - 1) && btw 0 y (sd k - 1)) := rfl
    have HVd : NstV k f x y = if okN k f x y then .tuple #[.int .i64 (nst k f x y), .int .i64 0] else .tuple #[.int .i64 0, .int .i64 2] := by simp [NstV, hk]
    have hnst : nst k f x y = f * sd k * sd k + btF k.toNat x y := rfl
    cases hf : btw 0 f 11
    · have HV : Hid (NstV k f x y = .tuple #[.int .i64 0, .int .i64 2]) := Lib.hid (by rw [HVd, hok, hf]; rfl)
      rw [hk] at HO
      rw [hf] at HF
      clear hk hf hok HVd hnst HX HY HBI
      generalize sd k = s at *
      go_enter Try.func24, Try.ntmps24
      go_wp2_with (first | (go_at_call 73; refine (HO.out _).mono ?_; rintro e w' ⟨rfl, rfl⟩) | (go_at_call 67; refine (HF.out _).mono ?_; rintro e w' ⟨rfl, rfl⟩))
      go_ret2
      exact ⟨(by rw [HV.out]; first | done | rfl), Below.refl _ _⟩
    · cases hx : btw 0 x (sd k - 1)
      · have HV : Hid (NstV k f x y = .tuple #[.int .i64 0, .int .i64 2]) := Lib.hid (by rw [HVd, hok, hf, hx]; rfl)
        rw [hk] at HO
        rw [hf] at HF
        rw [hx] at HX
        clear hk hf hx hok HVd hnst HY HBI
        generalize sd k = s at *
        go_enter Try.func24, Try.ntmps24
        go_wp2_with (first | (go_at_call 73; refine (HO.out _).mono ?_; rintro e w' ⟨rfl, rfl⟩) | (go_at_call 74; refine (HS.out _).mono ?_; rintro e w' ⟨rfl, rfl⟩) | (go_at_call 67; first | (have := hF1; refine (HX.out _).mono ?_; rintro e w' ⟨rfl, rfl⟩) | (refine (HF.out _).mono ?_; rintro e w' ⟨rfl, rfl⟩; have hF1 := trivial)))
        go_ret2
        exact ⟨(by rw [HV.out]; first | done | rfl), Below.refl _ _⟩
      · cases hy : btw 0 y (sd k - 1)
        · have HV : Hid (NstV k f x y = .tuple #[.int .i64 0, .int .i64 2]) := Lib.hid (by rw [HVd, hok, hf, hx, hy]; rfl)
          rw [hk] at HO
          rw [hf] at HF
          rw [hx] at HX
          rw [hy] at HY
          clear hk hf hx hy hok HVd hnst HBI
          generalize sd k = s at *
          go_enter Try.func24, Try.ntmps24
          go_wp2_with (first | (go_at_call 73; refine (HO.out _).mono ?_; rintro e w' ⟨rfl, rfl⟩) | (go_at_call 74; refine (HS.out _).mono ?_; rintro e w' ⟨rfl, rfl⟩) | (go_at_call 67; first | (have := hX1; refine (HY.out _).mono ?_; rintro e w' ⟨rfl, rfl⟩) | (have := hF1; refine (HX.out _).mono ?_; rintro e w' ⟨rfl, rfl⟩; have hX1 := trivial) | (refine (HF.out _).mono ?_; rintro e w' ⟨rfl, rfl⟩; have hF1 := trivial)))
          go_ret2
          exact ⟨(by rw [HV.out]; first | done | rfl), Below.refl _ _⟩
        · have HV : Hid (NstV k f x y = .tuple #[.int .i64 (f * sd k * sd k + btF k.toNat x y), .int .i64 0]) := Lib.hid (by rw [HVd, hok, hf, hx, hy]; rfl)
          have hfb := btw_iff.1 hf
          have hs : 0 ≤ f * sd k ∧ f * sd k ≤ 176 ∧ 0 ≤ f * sd k * sd k ∧ f * sd k * sd k ≤ 2816 := by
            rcases sd_cases hk with h | h | h | h | h <;> rw [h] <;> omega
          have hC : 0 ≤ btF k.toNat x y ∧ btF k.toNat x y ≤ 255 := by
            obtain ⟨a, rfl, ha⟩ := fin16 hk hx
            obtain ⟨b, rfl, hb⟩ := fin16 hk hy
            have hkk := btw_iff.1 hk
            exact btF_bound2 ⟨k.toNat, by omega⟩ a b
          have g1 : IntKind.i64.wrap (f * sd k) = f * sd k := IntWalk.i64_in _ (by omega)
          have g2 : wrap64 (f * sd k) = f * sd k := IntWalk.wrap64_in _ (by omega)
          have g3 : IntKind.i64.wrap (f * sd k * sd k) = f * sd k * sd k := IntWalk.i64_in _ (by omega)
          have g4 : wrap64 (f * sd k * sd k) = f * sd k * sd k := IntWalk.wrap64_in _ (by omega)
          have g5 : IntKind.i64.wrap (f * sd k * sd k + btF k.toNat x y) = f * sd k * sd k + btF k.toNat x y := IntWalk.i64_in _ (by omega)
          have HB2 := Lib.hid (fun W => HBI.out W hx hy)
          rw [hk] at HO
          rw [hf] at HF
          rw [hx] at HX
          rw [hy] at HY
          clear hk hf hx hy hok HVd hnst HBI hfb hs hC
          generalize btF k.toNat x y = C at *
          generalize sd k = s at *
          go_enter Try.func24, Try.ntmps24
          go_wp2_with (first | (go_at_call 73; refine (HO.out _).mono ?_; rintro e w' ⟨rfl, rfl⟩) | (go_at_call 74; refine (HS.out _).mono ?_; rintro e w' ⟨rfl, rfl⟩) | (go_at_call 75; refine (HB2.out _).mono ?_; rintro e w1 ⟨rfl, h1⟩) | (go_at_call 67; first | (have := hX1; refine (HY.out _).mono ?_; rintro e w' ⟨rfl, rfl⟩) | (have := hF1; refine (HX.out _).mono ?_; rintro e w' ⟨rfl, rfl⟩; have hX1 := trivial) | (refine (HF.out _).mono ?_; rintro e w' ⟨rfl, rfl⟩; have hF1 := trivial)))
          go_ret2
          exact ⟨(by rw [HV.out]; first | done | rfl), h1⟩
end Go.Proofs.Ytolgpigdioanoaa
