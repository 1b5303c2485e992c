/- The walk of the law SkyAll. -/
import Derived.Test.YtolgpigdioanoaaSkyHi
import Derived.Test.YtolgpigdioanoaaSkyDb
import Derived.Test.YtolgpigdioanoaaSkyE
import Derived.OpenShut
namespace Go.Proofs.Ytolgpigdioanoaa
open Go.RowKit
set_option linter.unusedSimpArgs false
set_option linter.unusedVariables false

set_option maxRecDepth 100000 in
set_option maxHeartbeats 8000000 in
theorem SkyAll_gen (w : World) (a b x y lo hi : Int) (a0 : 0 ≤ a) (a1 : a < 256) (b0 : 0 ≤ b) (b1 : b < 256) (hx : 1 + a % 63 = x) (hy : 1 + b % 63 = y) (hxy : (¬ y < x ∧ lo = x ∧ hi = y) ∨ (y < x ∧ lo = y ∧ hi = x)) :
    Calls Try.prog 15 #[.int .u8 a, .int .u8 b] w fun e w' => e = .returned (.bool true) ∧ Below w.heap.size w w' := by
  have s1 : IntKind.i64.wrap a = a := IntWalk.i64_in _ (by omega)
  have s2 : IntKind.i64.wrap b = b := IntWalk.i64_in _ (by omega)
  have s1' : wrap64 a = a := IntWalk.wrap64_in _ (by omega)
  have s2' : wrap64 b = b := IntWalk.wrap64_in _ (by omega)
  have hx2 : 1 ≤ x ∧ x ≤ 63 := by omega
  have hy2 : 1 ≤ y ∧ y ≤ 63 := by omega
  obtain ⟨am, ham⟩ : ∃ am, a % 63 = am := ⟨_, rfl⟩
  obtain ⟨bm, hbm⟩ : ∃ bm, b % 63 = bm := ⟨_, rfl⟩
  have n1 : a.tmod 63 = am := by rw [Int.tmod_eq_emod_of_nonneg a0]; exact ham
  have n2 : b.tmod 63 = bm := by rw [Int.tmod_eq_emod_of_nonneg b0]; exact hbm
  rw [ham] at hx
  rw [hbm] at hy
  have v1 : IntKind.i64.wrap am = am := IntWalk.i64_in _ (by omega)
  have v2 : IntKind.i64.wrap bm = bm := IntWalk.i64_in _ (by omega)
  have v3 : IntKind.i64.wrap (1 + am) = x := by rw [IntWalk.i64_in _ (by omega)]; exact hx
  have v4 : IntKind.i64.wrap (1 + bm) = y := by rw [IntWalk.i64_in _ (by omega)]; exact hy
  have v3' : wrap64 (1 + am) = x := by rw [IntWalk.wrap64_in _ (by omega)]; exact hx
  have v4' : wrap64 (1 + bm) = y := by rw [IntWalk.wrap64_in _ (by omega)]; exact hy
  have hl : 1 ≤ lo ∧ lo ≤ hi ∧ hi ≤ 63 := by omega
  have hmin : (if y < x then y else x) = lo := by rcases hxy with ⟨h, h1, -⟩ | ⟨h, h1, -⟩ <;> simp [h, h1]
  have hmax : (if x < y then y else x) = hi := by
    rcases hxy with ⟨h, h1, h2⟩ | ⟨h, h1, h2⟩
    · split
      · exact h2.symm
      · omega
    · rw [if_neg (by omega)]; exact h2.symm
  have hok : okBand lo hi = true := by unfold okBand btw; simp; omega
  have HR := Lib.hid (fun W => Rings_any lo hi W)
  have hre : ringsE lo hi = toldE (bandP lo hi) := by unfold ringsE; rw [hok]; rfl
  have hrl : ringsL lo hi = toldL (bandP lo hi) := by unfold ringsL; rw [hok]; rfl
  have hor := told_or (bandP lo hi)
  rw [← hre, ← hrl] at hor
  have hlen : (ringsL lo hi).length ≤ 400 := by rw [hrl]; exact toldL_len _
  clear hre hok hrl ham hbm hx hy hx2 hy2 hxy
  rcases hor with ⟨he, -, hv, hu⟩ | ⟨he, hn⟩
  · have hsz := siz_ok hv
    rw [cnt_congr hu] at hsz
    have HS := Lib.hid (fun A c W (h : RdP W W.heap.size A (ringsL lo hi)) => Size_any A c (ringsL lo hi) W h (by omega))
    rw [hsz.1, hsz.2] at HS
    rw [he] at HR
    have HAL := Lib.hid (fun W => Rings_any 1 63 W)
    rw [band_all.1, band_all.2] at HAL
    have HSK := Lib.hid Sky_any
    have HSA := Lib.hid (fun A A' c c' W h h' => Same_self A A' c c' skyL W h h' (by have := sky_len; omega))
    have HB0 := Lib.hid (band_none lo)
    have HBM := Lib.hid (fun r (h1 : lo ≤ r) (h2 : r ≤ 63) => band_more hl.1 h1 h2)
    have HLN : Hid (∀ r W, lo ≤ r → r ≤ 63 → Calls Try.prog 26 #[.int .i64 4, .int .i64 r] W fun e w' => e = .returned (.tuple #[.int .i64 (lenS 16 r), .int .i64 0]) ∧ Below W.heap.size W w') := Lib.hid (fun r W h1 h2 => by
      have := Length_any 4 r W
      unfold LenV at this
      have h16 : sd 4 = 16 := by decide
      have ho : okR 4 r = true := by unfold okR btw; rw [h16]; simp; omega
      rw [ho, h16] at this
      exact this)
    have HLB : Hid (∀ r, lo ≤ r → r ≤ 63 → 0 ≤ lenS 16 r ∧ lenS 16 r ≤ 64) := Lib.hid (fun r h1 h2 => by unfold lenS; split <;> (try split) <;> omega)
    have HCB : Hid (∀ r, cntP (bandP lo r) 0 3072 ≤ 3072) := Lib.hid (fun r => cntP_le _ _ _)
    unfold LstQ at *
    unfold CelsQ at HSK
    clear he hv hu hsz hlen
    generalize ringsL lo hi = RL at *
    generalize skyL = SK at *
    generalize SK.length = nsk at *
    generalize RL.length = nrl at *
    obtain ⟨cf, hcf⟩ : ∃ cf : Int → Nat, cf = fun r => cntP (bandP lo r) 0 3072 := ⟨_, rfl⟩
    have e1 : ∀ r, cntP (bandP lo r) 0 3072 = cf r := fun r => by rw [hcf]
    simp only [e1] at HS HB0 HBM HCB
    clear e1 hcf
    have HLL := Lib.hid hl
    have g1 : ¬ hi < lo := by omega
    go_enter Try.func15, Try.ntmps15
    go_wp2
    go_quiet (fail)
    go_wp2_with (first
      | (go_at_call 39; refine (HR.out _).mono ?_; rintro e w1 ⟨h1, A1, c1, rfl, r1⟩)
      | (go_at_call 59; refine (HS.out _ _ _ r1).mono ?_; rintro e w2 ⟨rfl, h2⟩))
    have hB2 := Lib.hid ((((Below.refl w.heap.size w).drewsN _).trs h1).trs h2)
    go_loopg [13, 14] 70 (fun gk s t wr => ∃ r : Int, s = .int .i64 (cf (r - 1) : Nat) ∧ t = .int .i64 r ∧ lo ≤ r ∧ r ≤ hi + 1 ∧ (hi + 1 - r).toNat ≤ gk ∧ Below w2.heap.size w2 wr)
    case atStart => exact ⟨lo, by rw [HB0.out]; rfl, rfl, by omega, by omega, by omega, Below.refl _ _⟩
    case round =>
      obtain ⟨r, rfl, rfl, hr1, hr2, hgk, hB⟩ := hrel
      by_cases hlt : r ≤ hi
      · have hltI : ¬ hi < r := by omega
        have HLr := Lib.hid (fun W => HLN.out r W hr1 (by omega))
        have hlb := HLB.out r hr1 (by omega)
        have HBr := Lib.hid (HBM.out r hr1 (by omega))
        have hcb := HCB.out (r - 1)
        have HL := Lib.hid (And.intro hr1 (And.intro hlt hgk))
        have HBB := Lib.hid hB
        clear hB hgk
        generalize lenS 16 r = L at *
        generalize hcj : cf (r - 1) = cj at *
        clear hcj
        have w1a : IntKind.i64.wrap ((cj : Int) + L) = (cj : Int) + L := IntWalk.i64_in _ (by omega)
        have w1b : wrap64 ((cj : Int) + L) = (cj : Int) + L := IntWalk.wrap64_in _ (by omega)
        have w2a : IntKind.i64.wrap (r + 1) = r + 1 := IntWalk.i64_in _ (by omega)
        have w2b : wrap64 (r + 1) = r + 1 := IntWalk.wrap64_in _ (by omega)
        go_wp2_with (go_at_call 26; refine (HLr.out _).mono ?_; rintro e w3 ⟨rfl, h3⟩)
        go_roundg (hi - r).toNat
        case measure => have := HL.out; omega
        case rel => exact ⟨r + 1, by rw [show r + 1 - 1 = r by omega, HBr.out]; go_num, by go_num, by have := HL.out; omega, by have := HL.out; omega, by have := HL.out; omega, HBB.out.trs h3⟩
      · obtain rfl : r = hi + 1 := by omega
        have hltI : hi < hi + 1 := by omega
        have HBB := Lib.hid (hB2.out.trs hB)
        rw [show hi + 1 - 1 = hi by omega]
        clear hB hB2
        go_wp2_with (first
          | (go_at_call 39; refine (HAL.out _).mono ?_; rintro e w4 ⟨h4, A4, c4, rfl, r4⟩)
          | (go_at_call 62; refine (HSK.out _).mono ?_; rintro e w5 ⟨h5, A5, c5, rfl, r5⟩; have r4 := r4.on h5)
          | (go_at_call 41; refine (HSA.out _ _ _ _ _ r4 r5).mono ?_; rintro e w6 ⟨rfl, h6⟩)
          | (go_at_call 22; refine (Sane_any _).mono ?_; rintro e w18 ⟨rfl, h18⟩))
        go_ret
        exact ⟨by first | rfl | simp, (((HBB.out.trs h4).trs h5).trs h6).trs h18⟩
  · rw [he, hn] at HR
    unfold LstQ at HR
    simp only [List.length_nil] at HR
    clear hlen he hn hl
    go_enter Try.func15, Try.ntmps15
    go_wp2
    go_quiet (fail)
    go_wp2_with (first
      | (go_at_call 39; refine (HR.out _).mono ?_; rintro e w1 ⟨h1, A1, c1, rfl, r1⟩)
      | (go_at_call 22; refine (Sane_any _).mono ?_; rintro e w18 ⟨rfl, h18⟩))
    go_ret
    exact ⟨by first | rfl | simp, (((Below.refl w.heap.size w).drewsN _).trs h1).trs h18⟩
theorem SkyAll_walk (w : World) (a : Int) (ha : (Lit.int .u8 a).wf = true) (b : Int) (hb : (Lit.int .u8 b).wf = true) :
    Calls Try.prog 15 #[.int .u8 a, .int .u8 b] w fun e w' => e = .returned (.bool true) ∧ Below w.heap.size w w' := by
  have h1 : 0 ≤ a ∧ a < 256 := by have := bounds_u8 ha; omega
  have h2 : 0 ≤ b ∧ b < 256 := by have := bounds_u8 hb; omega
  by_cases h : 1 + b % 63 < 1 + a % 63
  · exact SkyAll_gen w a b _ _ _ _ h1.1 h1.2 h2.1 h2.2 rfl rfl (.inr ⟨h, rfl, rfl⟩)
  · exact SkyAll_gen w a b _ _ _ _ h1.1 h1.2 h2.1 h2.2 rfl rfl (.inl ⟨h, rfl, rfl⟩)
end Go.Proofs.Ytolgpigdioanoaa
