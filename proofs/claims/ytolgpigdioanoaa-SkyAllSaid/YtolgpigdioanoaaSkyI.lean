/- Walks over package sky: the length of a ring, asked. -/
import Derived.Test.YtolgpigdioanoaaSkyH
namespace Go.Proofs.Ytolgpigdioanoaa
set_option linter.unusedSimpArgs false
set_option linter.unusedVariables false
open Go.RowKit

set_option maxHeartbeats 1000000 in
theorem length1_any (k r : Int) (g : Nat) (w : World) (hk : btw 0 k 4 = true) (hc : w.cell? ⟨g, 0, none⟩ = some (.int .i64 r)) (hg : g < w.heap.size) :
    Calls Try.prog 78 #[.agg #[.int .i64 k, .int .i64 (sd k)], .pointer (some ⟨g, 0, none⟩)] w fun e w' => e = .returned (.bool (btw 1 r (4 * sd k - 1))) ∧ Below w.heap.size w w' := by
  have hs : 1 ≤ sd k ∧ sd k ≤ 16 := by rcases sd_cases hk with h | h | h | h | h <;> omega
  have HR := Lib.hid (fun W => rings_any k (sd k) W hs)
  clear hk hs
  generalize sd k = s at *
  have hb := below_alloc w (.cells #[.int .i64 k, .int .i64 s] 68)
  rw [← hb.cell hg] at hc
  obtain ⟨⟨c0, c1⟩, -, -⟩ := (Box.new w 68 #[.int .i64 k, .int .i64 s]).two
  go_enter Try.func78, Try.ntmps78
  go_wp2_with fail
  go_region_held3 (fun w' => w'.cell? ⟨g, 0, none⟩ = some (.int .i64 r) ∧ w'.cell? ⟨w.heap.size, 0, none⟩ = some (.int .i64 k) ∧ w'.cell? ⟨w.heap.size, 1, none⟩ = some (.int .i64 s)) (first | go_keep | (refine ⟨?_, ?_, ?_⟩ <;> (rw [h1.cell (by simp <;> omega)]; first | assumption | go_keep))) ((first | (go_at_call 79; refine (HR.out _).mono ?_; rintro e w1 ⟨rfl, h1⟩) | (go_at_call 63; refine (between_any _ _ _ _).mono ?_; rintro e w' ⟨rfl, rfl⟩)))
  all_goals
    go_wp2_with fail
    go_ret
    exact ⟨rfl, (hb.drewsN 1).trs h1⟩

set_option maxHeartbeats 1000000 in
theorem on1_any (k r : Int) (g : Nat) (w : World) (hk : btw 0 k 4 = true) (hc : w.cell? ⟨g, 0, none⟩ = some (.int .i64 r)) (hg : g < w.heap.size) :
    Calls Try.prog 83 #[.agg #[.int .i64 k, .int .i64 (sd k)], .pointer (some ⟨g, 0, none⟩)] w fun e w' => e = .returned (.bool (btw 1 r (4 * sd k - 1))) ∧ Below w.heap.size w w' := by
  have hs : 1 ≤ sd k ∧ sd k ≤ 16 := by rcases sd_cases hk with h | h | h | h | h <;> omega
  have HR := Lib.hid (fun W => rings_any k (sd k) W hs)
  clear hk hs
  generalize sd k = s at *
  have hb := below_alloc w (.cells #[.int .i64 k, .int .i64 s] 68)
  rw [← hb.cell hg] at hc
  obtain ⟨⟨c0, c1⟩, -, -⟩ := (Box.new w 68 #[.int .i64 k, .int .i64 s]).two
  go_enter Try.func83, Try.ntmps83
  go_wp2_with fail
  go_region_held3 (fun w' => w'.cell? ⟨g, 0, none⟩ = some (.int .i64 r) ∧ w'.cell? ⟨w.heap.size, 0, none⟩ = some (.int .i64 k) ∧ w'.cell? ⟨w.heap.size, 1, none⟩ = some (.int .i64 s)) (first | go_keep | (refine ⟨?_, ?_, ?_⟩ <;> (rw [h1.cell (by simp <;> omega)]; first | assumption | go_keep))) ((first | (go_at_call 79; refine (HR.out _).mono ?_; rintro e w1 ⟨rfl, h1⟩) | (go_at_call 63; refine (between_any _ _ _ _).mono ?_; rintro e w' ⟨rfl, rfl⟩)))
  all_goals
    go_wp2_with fail
    go_ret
    exact ⟨rfl, (hb.drewsN 1).trs h1⟩

set_option maxHeartbeats 1000000 in
theorem Length_any (k r : Int) (w : World) :
    Calls Try.prog 26 #[.int .i64 k, .int .i64 r] w fun e w' => e = .returned (LenV k r) ∧ Below w.heap.size w w' := by
  have hB0 := below_alloc w (.cells #[.int .i64 r] 3)
  have q1 := cell_one w (.int .i64 r) 3
  cases hk : btw 0 k 4
  · have HA := Lib.hid (fun f W => asked_no k f W hk)
    have HV : Hid (LenV k r = .tuple #[.int .i64 0, .int .i64 2]) := Lib.hid (by simp [LenV, okR, hk])
    clear hk q1
    go_enter Try.func26, Try.ntmps26
    go_wp2_with (go_at_call 70; refine (HA.out _ _).mono ?_; rintro e w1 ⟨rfl, h1⟩)
    go_ret2
    exact ⟨(by rw [HV.out]; first | done | rfl), (hB0.trs h1).trs (below_alloc _ _)⟩
  · have HP : PredS 78 #[.pointer (some ⟨w.heap.size, 0, none⟩)] k (btw 1 r (4 * sd k - 1)) (w.alloc (.cells #[.int .i64 r] 3)) := by
      intro W hW
      have hs := hW.size
      simp only [World.size_alloc] at hs
      exact length1_any k r w.heap.size W hk (by rw [hW.cell (by simp)]; exact q1) (by omega)
    have HQ := Lib.hid (asked_is k 78 #[.pointer (some ⟨w.heap.size, 0, none⟩)] _ _ hk (enters_of Try.func78 (by kernel_rfl) rfl) HP); clear HP
    have hok : okR k r = btw 1 r (4 * sd k - 1) := by rw [okR, hk]; rfl
    cases hn : btw 1 r (4 * sd k - 1)
    · have HV : Hid (LenV k r = .tuple #[.int .i64 0, .int .i64 2]) := Lib.hid (by simp [LenV, hok, hn])
      rw [hn] at HQ
      clear hk hn hok q1
      generalize sd k = s at *
      go_enter Try.func26, Try.ntmps26
      go_wp2_with (go_at_call 70; refine HQ.out.mono ?_; rintro e w1 ⟨rfl, h1⟩)
      go_ret2
      exact ⟨(by rw [HV.out]; first | done | rfl), (hB0.trs h1).trs (below_alloc _ _)⟩
    · have HV : Hid (LenV k r = .tuple #[.int .i64 (lenS (sd k) r), .int .i64 0]) := Lib.hid (by simp [LenV, hok, hn])
      have HL := Lib.hid (fun W => length_any k r W hk (btw_iff.1 hn))
      rw [hn] at HQ
      clear hk hn hok
      have Q1 := Lib.hid q1; clear q1
      generalize lenS (sd k) r = L at *
      generalize sd k = s at *
      go_enter Try.func26, Try.ntmps26
      go_wp2_with (first
        | (go_at_call 70; refine HQ.out.mono ?_; rintro e w1 ⟨rfl, h1⟩; have h1a := h1.trs (below_alloc w1 (.cells #[.int .i64 k, .int .i64 s] 68)); have q1 := Q1.out; rw [← h1a.cell (by simp)] at q1)
        | (go_at_call 80; refine (HL.out _).mono ?_; rintro e w2 ⟨rfl, h2⟩))
      go_ret2
      exact ⟨(by rw [HV.out]; first | done | rfl), (hB0.trs h1a).trs h2⟩
end Go.Proofs.Ytolgpigdioanoaa
