/- Walks over package sky: the pixels on a ring. -/
import Derived.Test.YtgbpmleipdecgaaSkyR
import Derived.Test.YtgbpmleipdecgaaLib3
namespace Go.Proofs.Ytgbpmleipdecgaa
set_option linter.unusedSimpArgs false
set_option linter.unusedVariables false
open Go.RowKit

theorem infoInt : (Try.prog.info? 3).map (fun i => (i.zero, i.size, i.bytes)) = some (some (.int .i64 0), 1, 8) := by kernel_rfl

/-- a pixel is on the ring, or not -/
theorem on_step {k r : Int} {n : Nat} (hk : btw 0 k 4 = true) (hr : 1 ≤ r ∧ r ≤ 4 * sd k - 1) (hn : (n : Int) < px k) : okP k n = true ∧ ((pR k n = r ∧ ∃ i : Nat, pP k n = (i : Int) + 1 ∧ i < (lenS (sd k) r).toNat ∧ onF k r (n + 1) = (onF k r n).set i n) ∨ (¬ pR k n = r ∧ onF k r (n + 1) = onF k r n)) := by
  have h := okP_mk (n := n) hk (by omega)
  refine ⟨h, ?_⟩
  by_cases e : pR k n = r
  · have hf := place_facts h
    rw [e] at hf
    refine .inl ⟨e, (pP k n - 1).toNat, by omega, by omega, onF_hit h e⟩
  · exact .inr ⟨e, onF_miss hk hr e⟩

set_option maxHeartbeats 1000000 in
theorem on_any (k r : Int) (w : World) (hk : btw 0 k 4 = true) (hr : 1 ≤ r ∧ r ≤ 4 * sd k - 1) :
    Calls Try.prog 28 #[.agg #[.int .i64 k, .int .i64 (sd k)], .int .i64 r] w fun e w' => ∃ g, e = .returned (.slice (some ⟨g, 0, none⟩) (lenS (sd k) r).toNat (lenS (sd k) r).toNat) ∧ BoxI w' g (onL k r) ∧ Below w.heap.size w w' ∧ w.heap.size ≤ g := by
  have hlb := lenS_bound (sd_b hk) hr
  have hp0 := px_le hk
  have HL := Lib.hid (fun W => length_any k r W hk hr)
  have HP := Lib.hid (fun W => pixels_s k (sd k) W (sd_cases hk))
  rw [show 12 * sd k * sd k = px k from rfl] at HP
  have HR : Hid (∀ (n : Nat) W, okP k n = true → Calls Try.prog 38 #[.agg #[.int .i64 k, .int .i64 (sd k)], .int .i64 n] W fun e w' => e = .returned (.tuple #[.int .i64 (pR k n), .int .i64 (pP k n)]) ∧ Below W.heap.size W w') := Lib.hid (fun n W h => ring_any k n W h)
  have HF := Lib.hid (fun n (hn : ((n : Nat) : Int) < px k) => on_step hk hr hn)
  have HZ := Lib.hid (onF_zero k r)
  have HE := Lib.hid (onF_all hk hr)
  have HN := Lib.hid (fun n => onF_len k r n)
  obtain ⟨cs, hmk, hbm⟩ := run_make_int (P := Try.prog) (T := 57) Try.underlying57 infoInt (lenS (sd k) r) (by omega) (by omega)
  have HM := Lib.hid hbm; clear hbm
  clear hk hr
  generalize lenS (sd k) r = L at *
  generalize px k = N at *
  generalize sd k = s at *
  have hbs := Box.new w 54 #[.int .i64 k, .int .i64 s]
  have HBS := Lib.hid hbs
  obtain ⟨⟨c0, c1⟩, -, -⟩ := hbs.two
  clear hbs
  have hB0 := below_alloc w (.cells #[.int .i64 k, .int .i64 s] 54)
  go_enter Try.func28, Try.ntmps28
  go_wp2_with (first
    | (go_at_call 60; refine (HL.out _).mono ?_; rintro e w1 ⟨rfl, h1⟩; have hbs := (HBS.out.on h1).alloc (.cells cs 3); have HBS1 := Lib.hid hbs; obtain ⟨⟨d0, d1⟩, -, -⟩ := hbs.two; clear hbs c0 c1)
    | (go_at_call 41; refine (HP.out _).mono ?_; rintro e w2 ⟨rfl, h2⟩; have hB2 := ((hB0.trs h1).trs (below_alloc w1 (.cells cs 3))).trs h2; have HBO := Lib.hid ((HM.out w1).on h2); have HBS2 := Lib.hid (HBS1.out.on h2)))
  have hg1 : w.heap.size < w1.heap.size := by have := h1.size; simp at this; omega
  clear d0 d1
  go_loopg [15] 3073 (fun kk u wr => ∃ n : Nat, u = .int .i64 n ∧ (n : Int) ≤ N ∧ 3073 - n ≤ kk ∧ BoxI wr w1.heap.size (onF k r n) ∧ Box wr w.heap.size 54 #[.int .i64 k, .int .i64 s] ∧ Below w.heap.size w wr)
  case atStart => exact ⟨0, rfl, by omega, by omega, by rw [HZ.out]; exact HBO.out, HBS2.out, hB2⟩
  case round =>
    obtain ⟨n, rfl, hn, hkk, hO, hS, hB⟩ := hrel
    have hB' := Lib.hid hB; clear hB
    have HO := Lib.hid hO; clear hO
    have HS := Lib.hid hS
    obtain ⟨⟨c0, c1⟩, -, -⟩ := hS.two
    clear hS
    by_cases hlt : (n : Int) < N
    · obtain ⟨hok, hcase⟩ := HF.out n hlt
      have HRn := Lib.hid (fun W => HR.out n W hok)
      clear hok
      have HLn := Lib.hid (HN.out n)
      rcases hcase with ⟨hR, i, hP, hi, hset⟩ | ⟨hR, hset⟩
      · rw [hR, hP] at HRn
        have HSET := Lib.hid hset; clear hset hR hP
        have hi2 : (i : Int) < L := by omega
        have hi3 : (i : Int) + 1 ≤ 1000 := by omega
        have hi4 : (L.toNat : Int) = L := by omega
        go_wp2_with (go_at_call 38; refine (HRn.out _).mono ?_; rintro e w3 ⟨rfl, h3⟩; have hbo := HO.out.on h3; have HBO3 := Lib.hid hbo; have hcf := hbo.frozen i; have hcc := hbo.cell (k := i) (by rw [HLn.out]; exact hi); clear hbo)
        go_roundg (3073 - (n + 1))
        case measure => omega
        case rel => exact ⟨n + 1, by go_num, by omega, by omega, by rw [HSET.out]; exact HBO3.out.set_ i n, (HS.out.on h3).far (by simp; omega) _, (hB'.out.trs h3).setCell (p := ⟨_, _, none⟩) (by simp; omega) _⟩
      · have HSET := Lib.hid hset; clear hset
        generalize pR k n = R at *
        generalize pP k n = P at *
        go_wp2_with (go_at_call 38; refine (HRn.out _).mono ?_; rintro e w3 ⟨rfl, h3⟩)
        go_roundg (3073 - (n + 1))
        case measure => omega
        case rel => exact ⟨n + 1, by go_num, by omega, by omega, by rw [HSET.out]; exact HO.out.on h3, HS.out.on h3, hB'.out.trs h3⟩
    · obtain rfl : N = (n : Int) := by omega
      go_wp2
      go_ret
      exact ⟨w1.heap.size, rfl, by rw [← HE.out]; simpa using HO.out, hB'.out, by omega⟩
end Go.Proofs.Ytgbpmleipdecgaa
