/- Walks over package sky: the pixels on a ring. -/
import Derived.Test.YtolgpigdioanoaaSkyR
import Derived.Test.YtolgpigdioanoaaLib3
namespace Go.Proofs.Ytolgpigdioanoaa
set_option linter.unusedSimpArgs false
set_option linter.unusedVariables false
open Go.RowKit

theorem infoInt : (Try.prog.info? 3).map (fun i => (i.zero, i.size, i.bytes)) = some (some (.int .i64 0), 1, 8) := by kernel_rfl

theorem CloneI_any (A : Option Addr) (c : Nat) (L : List Int) (w : World) (hr : RdI w w.heap.size A L) (hne : L ≠ []) (hl : L.length ≤ 1000000) :
    Calls Try.prog 84 #[.slice A L.length c] w fun e w' => ∃ v, e = .returned v ∧ OwnI w' w.heap.size 3 v L ∧ Below w.heap.size w w' := by
  have hA : ∃ b o, A = some ⟨b, o, none⟩ := by
    rcases hr with h | ⟨b, o, h, _⟩
    · exact absurd h hne
    · exact ⟨b, o, h⟩
  have HR := Lib.hid hr; clear hr
  have HN := Lib.hid hne; clear hne
  obtain ⟨b, o, rfl⟩ := hA
  have hq := fun W : World => Lib.run_eql_slice_nil (P := Try.prog) (w := W)
  go_enter Try.func84, Try.ntmps84
  have hown : OwnI (w.alloc (.cells #[] 3)) w.heap.size 3 (.slice (some ⟨w.heap.size, 0, none⟩) 0 0) [] := World.ownsRow_lit w #[] 0 (Nat.le_refl _) (by decide) rfl
  have hr1 := HR.out.on (below_alloc w (.cells #[] 3))
  have HO := Lib.hid hown; clear hown
  have HR1 := Lib.hid hr1; clear hr1
  go_wp2_with (at_builtin; refine wp_app_ints 25 rfl (.tmp 5) (.tmp 6) rfl Try.underlying25 infoInt _ w.heap.size (.slice (some ⟨w.heap.size, 0, none⟩) 0 0) [] L (some ⟨b, o, none⟩) c rfl rfl HO.out HR1.out HN.out (by decide) hl (by simp) ?_; intro v' w' hO3 hB3 _)
  go_ret
  exact ⟨v', rfl, hO3, (below_alloc _ _).trans hB3⟩

/-- a pixel is on the ring, or not -/
theorem on_step {k r : Int} {n : Nat} (hk : btw 0 k 4 = true) (hr : 1 ≤ r ∧ r ≤ 4 * sd k - 1) (hn : (n : Int) < px k) : okP k n = true ∧ ((pR k n = r ∧ ∃ i : Nat, pP k n = (i : Int) + 1 ∧ i < (lenS (sd k) r).toNat ∧ onF k r (n + 1) = (onF k r n).set i n) ∨ (¬ pR k n = r ∧ onF k r (n + 1) = onF k r n)) := by
  have h := okP_mk (n := n) hk (by omega)
  refine ⟨h, ?_⟩
  by_cases e : pR k n = r
  · have hf := place_facts h
    rw [e] at hf
    refine .inl ⟨e, (pP k n - 1).toNat, by omega, by omega, onF_hit h e⟩
  · exact .inr ⟨e, onF_miss hk hr e⟩

set_option maxHeartbeats 1000000 in
theorem on_any (k r : Int) (w : World) (hk : btw 0 k 4 = true) (hr : 1 ≤ r ∧ r ≤ 4 * sd k - 1) :
    Calls Try.prog 85 #[.agg #[.int .i64 k, .int .i64 (sd k)], .int .i64 r] w fun e w' => ∃ g, e = .returned (.slice (some ⟨g, 0, none⟩) (lenS (sd k) r).toNat (lenS (sd k) r).toNat) ∧ BoxI w' g (onL k r) ∧ Below w.heap.size w w' ∧ w.heap.size ≤ g := by
  have hlb := lenS_bound (sd_b hk) hr
  have hp0 := px_le hk
  have HL := Lib.hid (fun W => length_any k r W hk hr)
  have HP := Lib.hid (fun W => pixels_s k (sd k) W (sd_cases hk))
  rw [show 12 * sd k * sd k = px k from rfl] at HP
  have HR : Hid (∀ (n : Nat) W, okP k n = true → Calls Try.prog 96 #[.agg #[.int .i64 k, .int .i64 (sd k)], .int .i64 n] W fun e w' => e = .returned (.tuple #[.int .i64 (pR k n), .int .i64 (pP k n)]) ∧ Below W.heap.size W w') := Lib.hid (fun n W h => ring_any k n W h)
  have HF := Lib.hid (fun n (hn : ((n : Nat) : Int) < px k) => on_step hk hr hn)
  have HZ := Lib.hid (onF_zero k r)
  have HE := Lib.hid (onF_all hk hr)
  have HN := Lib.hid (fun n => onF_len k r n)
  obtain ⟨cs, hmk, hbm⟩ := run_make_int (P := Try.prog) (T := 25) Try.underlying25 infoInt (lenS (sd k) r) (by omega) (by omega)
  have HM := Lib.hid hbm; clear hbm
  clear hk hr
  generalize lenS (sd k) r = L at *
  generalize px k = N at *
  generalize sd k = s at *
  have hbs := Box.new w 68 #[.int .i64 k, .int .i64 s]
  have HBS := Lib.hid hbs
  obtain ⟨⟨c0, c1⟩, -, -⟩ := hbs.two
  clear hbs
  have hB0 := below_alloc w (.cells #[.int .i64 k, .int .i64 s] 68)
  go_enter Try.func85, Try.ntmps85
  go_wp2_with (first
    | (go_at_call 80; refine (HL.out _).mono ?_; rintro e w1 ⟨rfl, h1⟩; have hbs := (HBS.out.on h1).alloc (.cells cs 3); have HBS1 := Lib.hid hbs; obtain ⟨⟨d0, d1⟩, -, -⟩ := hbs.two; clear hbs c0 c1)
    | (go_at_call 77; refine (HP.out _).mono ?_; rintro e w2 ⟨rfl, h2⟩; have hB2 := ((hB0.trs h1).trs (below_alloc w1 (.cells cs 3))).trs h2; have HBO := Lib.hid ((HM.out w1).on h2); have HBS2 := Lib.hid (HBS1.out.on h2)))
  have hg1 : w.heap.size < w1.heap.size := by have := h1.size; simp at this; omega
  clear d0 d1
  go_loopg [15] 3073 (fun kk u wr => ∃ n : Nat, u = .int .i64 n ∧ (n : Int) ≤ N ∧ 3073 - n ≤ kk ∧ BoxI wr w1.heap.size (onF k r n) ∧ Box wr w.heap.size 68 #[.int .i64 k, .int .i64 s] ∧ Below w.heap.size w wr)
  case atStart => exact ⟨0, rfl, by omega, by omega, by rw [HZ.out]; exact HBO.out, HBS2.out, hB2⟩
  case round =>
    obtain ⟨n, rfl, hn, hkk, hO, hS, hB⟩ := hrel
    have hB' := Lib.hid hB; clear hB
    have HO := Lib.hid hO; clear hO
    have HS := Lib.hid hS
    obtain ⟨⟨c0, c1⟩, -, -⟩ := hS.two
    clear hS
    by_cases hlt : (n : Int) < N
    · obtain ⟨hok, hcase⟩ := HF.out n hlt
      have HRn := Lib.hid (fun W => HR.out n W hok)
      clear hok
      have HLn := Lib.hid (HN.out n)
      rcases hcase with ⟨hR, i, hP, hi, hset⟩ | ⟨hR, hset⟩
      · rw [hR, hP] at HRn
        have HSET := Lib.hid hset; clear hset hR hP
        have hi2 : (i : Int) < L := by omega
        have hi3 : (i : Int) + 1 ≤ 1000 := by omega
        have hi4 : (L.toNat : Int) = L := by omega
        go_wp2_with (go_at_call 96; refine (HRn.out _).mono ?_; rintro e w3 ⟨rfl, h3⟩; have hbo := HO.out.on h3; have HBO3 := Lib.hid hbo; have hcf := hbo.frozen i; have hcc := hbo.cell (k := i) (by rw [HLn.out]; exact hi); clear hbo)
        go_roundg (3073 - (n + 1))
        case measure => omega
        case rel => exact ⟨n + 1, by go_num, by omega, by omega, by rw [HSET.out]; exact HBO3.out.set_ i n, (HS.out.on h3).far (by simp; omega) _, (hB'.out.trs h3).setCell (p := ⟨_, _, none⟩) (by simp; omega) _⟩
      · have HSET := Lib.hid hset; clear hset
        generalize pR k n = R at *
        generalize pP k n = P at *
        go_wp2_with (go_at_call 96; refine (HRn.out _).mono ?_; rintro e w3 ⟨rfl, h3⟩)
        go_roundg (3073 - (n + 1))
        case measure => omega
        case rel => exact ⟨n + 1, by go_num, by omega, by omega, by rw [HSET.out]; exact HO.out.on h3, HS.out.on h3, hB'.out.trs h3⟩
    · obtain rfl : N = (n : Int) := by omega
      go_wp2
      go_ret
      exact ⟨w1.heap.size, rfl, by rw [← HE.out]; simpa using HO.out, hB'.out, by omega⟩
end Go.Proofs.Ytolgpigdioanoaa
