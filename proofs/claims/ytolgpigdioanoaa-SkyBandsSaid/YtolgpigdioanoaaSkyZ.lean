/- Walks over package sky and its reference: On, FromRing, Pixels. -/
import Derived.Test.YtolgpigdioanoaaSkyT
import Derived.Test.YtolgpigdioanoaaSkyY
namespace Go.Proofs.Ytolgpigdioanoaa
set_option linter.unusedSimpArgs false
set_option linter.unusedVariables false
open Go.RowKit

def FrmV (k n : Int) : Value := if okP k n then .tuple #[.int .i64 (frm k n), .int .i64 0] else .tuple #[.int .i64 0, .int .i64 2]

theorem FromRing_any (k p : Int) (w : World) :
    Calls Try.prog 35 #[.int .i64 k, .int .i64 p] w fun e w' => e = .returned (FrmV k p) ∧ Below w.heap.size w w' := by
  have hB0 := below_alloc w (.cells #[.int .i64 p] 3)
  have hc := cell_one w (.int .i64 p) 3
  have HF := ofInt_any k p 92 #[.pointer (some ⟨w.heap.size, 0, none⟩)] (fun v _ => v = .int .i64 (frm k p)) (w.alloc (.cells #[.int .i64 p] 3)) (enters_of Try.func92 (by kernel_rfl) rfl)
    (fun hok W hW => by
      have hs := hW.size
      simp only [World.size_alloc] at hs
      have := fromRing1_any k p w.heap.size W hok (by rw [hW.cell (by simp)]; exact hc) (by omega)
      exact this)
  have HV := Lib.hid (show FrmV k p = if okP k p then .tuple #[.int .i64 (frm k p), .int .i64 0] else .tuple #[.int .i64 0, .int .i64 2] from rfl)
  generalize frm k p = N at *
  generalize FrmV k p = V at *
  cases hok : okP k p
  all_goals
    rw [hok] at HV
    simp only [hok] at HF
    have HG := Lib.hid HF; clear HF hok
    go_enter Try.func35, Try.ntmps35
  · go_wp2_with (go_at_call 64; refine HG.out.mono ?_; rintro e w1 ⟨h, h1⟩; simp at h; subst h)
    go_ret2
    exact ⟨by rw [HV.out]; rfl, hB0.trs h1⟩
  · go_wp2_with (go_at_call 64; refine HG.out.mono ?_; rintro e w1 ⟨h, h1⟩; simp at h; subst h)
    go_ret2
    exact ⟨by rw [HV.out]; rfl, hB0.trs h1⟩

theorem refFromRing_any (k p : Int) (w : World) :
    Calls Try.prog 36 #[.int .i64 k, .int .i64 p] w fun e w' => e = .returned (FrmV k p) ∧ Below w.heap.size w w' := by
  have HP := Lib.hid (fun W => isPixel_any k p W)
  cases hok : okP k p
  · have HV : Hid (FrmV k p = .tuple #[.int .i64 0, .int .i64 2]) := Lib.hid (by simp [FrmV, hok])
    rw [hok] at HP
    clear hok
    go_enter Try.func36, Try.ntmps36
    go_wp2_with (go_at_call 66; refine (HP.out _).mono ?_; rintro e w' ⟨rfl, rfl⟩)
    go_ret2
    exact ⟨(by rw [HV.out]; first | done | rfl), Below.refl _ _⟩
  · have HV : Hid (FrmV k p = .tuple #[.int .i64 (frm k p), .int .i64 0]) := Lib.hid (by simp [FrmV, hok])
    have hk := okP_k hok
    have hpx := px_le hk
    obtain ⟨f1, f2⟩ := frm_ok hok
    obtain ⟨m, hm, hmp⟩ := okP_nat f1
    have HN := Lib.hid (fun W => refpixels_any k W hk)
    have HR : Hid (∀ (i : Nat) W, (i : Int) < px k → Calls Try.prog 34 #[.int .i64 k, .int .i64 i] W fun e w' => e = .returned (.tuple #[.int .i64 (rgN k i), .int .i64 0]) ∧ Below W.heap.size W w') := Lib.hid (fun i W hi => by
      have := refRing_any k i W
      rw [RingV, okP_mk hk (by omega)] at this
      exact this)
    have HI := Lib.hid (fun (i : Nat) (hi : (i : Int) < px k) (h : rgN k i = p) => frm_eq (okP_mk hk (n := i) (by omega)) h)
    rw [hok] at HP
    rw [hm] at f2 HI HV
    have F2 := Lib.hid f2; clear f2
    clear hok hk f1 hm
    generalize px k = N at *
    go_enter Try.func36, Try.ntmps36
    go_wp2_with (go_at_call 66; refine (HP.out _).mono ?_; rintro e w' ⟨rfl, rfl⟩)
    go_loopg [6] 3073 (fun kk u wr => ∃ i : Nat, u = .int .i64 i ∧ i ≤ m ∧ 3073 - i ≤ kk ∧ Below w.heap.size w wr)
    case atStart => exact ⟨0, rfl, by omega, by omega, Below.refl _ _⟩
    case round =>
      obtain ⟨i, rfl, hi, hkk, hB⟩ := hrel
      have HBr := Lib.hid hB; clear hB
      have hlt : (i : Int) < N := by omega
      have HRi := Lib.hid (fun W => HR.out i W hlt)
      by_cases e : i = m
      · subst e
        rw [F2.out] at HRi
        go_wp2_with (first | (go_at_call 86; refine (HN.out _).mono ?_; rintro e w' ⟨rfl, rfl⟩) | (go_at_call 34; refine (HRi.out _).mono ?_; rintro e w1 ⟨rfl, h1⟩))
        go_ret2
        exact ⟨(by rw [HV.out]; first | done | rfl), HBr.out.trs h1⟩
      · have hne : ¬ rgN k i = p := fun h => e (by have := HI.out i hlt h; omega)
        generalize rgN k i = R at *
        go_wp2_with (first | (go_at_call 86; refine (HN.out _).mono ?_; rintro e w' ⟨rfl, rfl⟩) | (go_at_call 34; refine (HRi.out _).mono ?_; rintro e w1 ⟨rfl, h1⟩))
        go_roundg (3073 - (i + 1))
        case measure => omega
        case rel => exact ⟨i + 1, by go_num, by omega, by omega, HBr.out.trs h1⟩

def PixV (k : Int) : Value := if btw 0 k 4 then .tuple #[.int .i64 (px k), .int .i64 0] else .tuple #[.int .i64 0, .int .i64 2]
theorem Pixels_any (k : Int) (w : World) :
    Calls Try.prog 25 #[.int .i64 k] w fun e w' => e = .returned (PixV k) ∧ Below w.heap.size w w' := by
  cases hk : btw 0 k 4
  · have HV : Hid (PixV k = .tuple #[.int .i64 0, .int .i64 2]) := Lib.hid (by simp [PixV, hk])
    have HO := Lib.hid (fun W => open_no k W hk)
    clear hk
    go_enter Try.func25, Try.ntmps25
    go_wp2_with (go_at_call 76; refine (HO.out _).mono ?_; rintro e w1 ⟨rfl, h1⟩)
    go_ret2
    exact ⟨(by rw [HV.out]; first | done | rfl), h1.trs (below_alloc _ _)⟩
  · have HV : Hid (PixV k = .tuple #[.int .i64 (px k), .int .i64 0]) := Lib.hid (by simp [PixV, hk])
    have HO := Lib.hid (fun W => open_ok k W hk)
    have HP := Lib.hid (fun W => pixels_s k (sd k) W (sd_cases hk))
    rw [show 12 * sd k * sd k = px k from rfl] at HP
    clear hk
    generalize px k = N at *
    generalize sd k = s at *
    go_enter Try.func25, Try.ntmps25
    go_wp2_with (first | (go_at_call 76; refine (HO.out _).mono ?_; rintro e w1 ⟨rfl, h1⟩; obtain ⟨⟨c0, c1⟩, -, -⟩ := (Box.new w1 68 #[.int .i64 k, .int .i64 s]).two) | (go_at_call 77; refine (HP.out _).mono ?_; rintro e w2 ⟨rfl, h2⟩))
    go_ret2
    exact ⟨(by rw [HV.out]; first | done | rfl), (h1.trs (below_alloc _ _)).trs h2⟩
theorem refPixels_any (k : Int) (w : World) :
    Calls Try.prog 30 #[.int .i64 k] w fun e w' => e = .returned (PixV k) ∧ w = w' := by
  have HO := Lib.hid (fun W => isOrder_any k W)
  cases hk : btw 0 k 4
  · have HV : Hid (PixV k = .tuple #[.int .i64 0, .int .i64 2]) := Lib.hid (by simp [PixV, hk])
    rw [hk] at HO
    clear hk
    go_enter Try.func30, Try.ntmps30
    go_wp2_with (go_at_call 73; refine (HO.out _).mono ?_; rintro e w' ⟨rfl, rfl⟩)
    go_ret2
    exact ⟨(by rw [HV.out]; first | done | rfl), rfl⟩
  · have HV : Hid (PixV k = .tuple #[.int .i64 (px k), .int .i64 0]) := Lib.hid (by simp [PixV, hk])
    have HN := Lib.hid (fun W => refpixels_any k W hk)
    rw [hk] at HO
    clear hk
    generalize px k = N at *
    go_enter Try.func30, Try.ntmps30
    go_wp2_with (first | (go_at_call 73; refine (HO.out _).mono ?_; rintro e w' ⟨rfl, rfl⟩) | (go_at_call 86; refine (HN.out _).mono ?_; rintro e w' ⟨rfl, rfl⟩))
    go_ret2
    exact ⟨(by rw [HV.out]; first | done | rfl), rfl⟩

def OnLs (k r : Int) : List Int := if okR k r then onL k r else []
def OnE (k r : Int) : Int := if okR k r then 0 else 2

set_option maxHeartbeats 1000000 in
theorem On_any (k r : Int) (w : World) :
    Calls Try.prog 28 #[.int .i64 k, .int .i64 r] w (IntsRet (OnLs k r) (OnE k r) w) := by
  have hB0 := below_alloc w (.cells #[.int .i64 r] 3)
  have q1 := cell_one w (.int .i64 r) 3
  cases hok : okR k r
  · have HV : Hid (∀ w', Below w.heap.size w w' → IntsRet (OnLs k r) (OnE k r) w (.returned (.tuple #[.slice none 0 0, .int .i64 2])) w') := Lib.hid (fun w' h => by rw [OnLs, OnE, hok]; exact ⟨h, none, 0, rfl, .inl rfl⟩)
    cases hk : btw 0 k 4
    · have HA := Lib.hid (fun f W => asked_no k f W hk)
      clear hk q1 hok
      go_enter Try.func28, Try.ntmps28
      go_wp2_with (go_at_call 70; refine (HA.out _ _).mono ?_; rintro e w1 ⟨rfl, h1⟩)
      go_ret2
      exact HV.out _ ((hB0.trs h1).trs (below_alloc _ _))
    · have hn : btw 1 r (4 * sd k - 1) = false := by rw [okR, hk] at hok; exact hok
      have HP : PredS 83 #[.pointer (some ⟨w.heap.size, 0, none⟩)] k false (w.alloc (.cells #[.int .i64 r] 3)) := by
        intro W hW
        have hs := hW.size
        simp only [World.size_alloc] at hs
        have := on1_any k r w.heap.size W hk (by rw [hW.cell (by simp)]; exact q1) (by omega)
        rw [hn] at this
        exact this
      have HQ := Lib.hid (asked_is k 83 #[.pointer (some ⟨w.heap.size, 0, none⟩)] _ _ hk (enters_of Try.func83 (by kernel_rfl) rfl) HP); clear HP
      clear hk hok hn q1
      generalize sd k = s at *
      go_enter Try.func28, Try.ntmps28
      go_wp2_with (go_at_call 70; refine HQ.out.mono ?_; rintro e w1 ⟨rfl, h1⟩)
      go_ret2
      exact HV.out _ ((hB0.trs h1).trs (below_alloc _ _))
  · have hk := okR_k hok
    have hrr := okR_r hok
    have hlb := lenS_bound (sd_b hk) hrr
    have HV : Hid (∀ w' v, Below w.heap.size w w' → OwnI w' w.heap.size 3 v (onL k r) → IntsRet (OnLs k r) (OnE k r) w (.returned (.tuple #[v, .int .i64 0])) w') := Lib.hid (fun w' v h ho => by
      rw [OnLs, OnE, hok]
      obtain ⟨A, c, rfl, hr⟩ := ho.rd
      exact ⟨h, A, c, rfl, hr⟩)
    have HP : PredS 83 #[.pointer (some ⟨w.heap.size, 0, none⟩)] k true (w.alloc (.cells #[.int .i64 r] 3)) := by
      intro W hW
      have hs := hW.size
      simp only [World.size_alloc] at hs
      have := on1_any k r w.heap.size W hk (by rw [hW.cell (by simp)]; exact q1) (by omega)
      rw [btw_iff.2 hrr] at this
      exact this
    have HQ := Lib.hid (asked_is k 83 #[.pointer (some ⟨w.heap.size, 0, none⟩)] _ _ hk (enters_of Try.func83 (by kernel_rfl) rfl) HP); clear HP
    have HO := Lib.hid (fun W => on_any k r W hk hrr)
    have hlen := onL_len k r
    have HNE : Hid (onL k r ≠ []) := Lib.hid (fun h => by rw [h] at hlen; simp at hlen; omega)
    have HLE : Hid ((onL k r).length ≤ 1000000) := Lib.hid (by rw [hlen]; omega)
    rw [← hlen] at HO
    clear hk hok hrr hlb hlen
    have Q1 := Lib.hid q1; clear q1
    generalize onL k r = l at *
    generalize sd k = s at *
    go_enter Try.func28, Try.ntmps28
    go_wp2_with (first
      | (go_at_call 70; refine HQ.out.mono ?_; rintro e w1 ⟨rfl, h1⟩; have h1a := h1.trs (below_alloc w1 (.cells #[.int .i64 k, .int .i64 s] 68)); have q1 := Q1.out; rw [← h1a.cell (by simp)] at q1)
      | (go_at_call 85; refine (HO.out _).mono ?_; rintro e w2 ⟨g, rfl, hO, h2, hg⟩; have HOO := Lib.hid hO.rd; clear hO)
      | (go_at_call 84; refine (CloneI_any (some ⟨g, 0, none⟩) _ l w2 HOO.out HNE.out HLE.out).mono ?_; rintro e w3 ⟨v, rfl, hv, h3⟩; have HVV := Lib.hid hv; clear hv))
    go_ret2
    exact HV.out _ _ (((hB0.trs h1a).trs h2).trs h3) (HVV.out.less (by have := ((hB0.trs h1a).trs h2).size; omega))
end Go.Proofs.Ytolgpigdioanoaa
