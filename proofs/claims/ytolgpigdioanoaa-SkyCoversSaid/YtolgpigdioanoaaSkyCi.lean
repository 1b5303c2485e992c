/- Walks over package sky: the cells of a region. -/
import Derived.Test.YtolgpigdioanoaaSkyCh
namespace Go.Proofs.Ytolgpigdioanoaa
open Go.RowKit
set_option linter.unusedSimpArgs false
set_option linter.unusedVariables false

/-- a list of cells comes back -/
def CelsQ (l : List (Int × Int)) (w : World) (e : Ending) (w' : World) : Prop :=
  Below w.heap.size w w' ∧ ∃ A c, e = .returned (.slice A l.length c) ∧ RdP w' w'.heap.size A l
def faceC (S : Px) : Nat → List (Int × Int)
  | 0 => []
  | f + 1 => faceC S f ++ lookC S 4 f
theorem faceC_all (S : Px) : faceC S 12 = cellsP S := by
  unfold cellsP
  rw [show List.range 12 = [0, 1, 2, 3, 4, 5, 6, 7, 8, 9, 10, 11] by decide]
  simp [faceC, List.append_assoc]
theorem faceC_len (S : Px) : ∀ f, (faceC S f).length ≤ f * 256
  | 0 => by simp [faceC]
  | f + 1 => by
    have h1 := faceC_len S f
    have h2 := look_len S 4 f
    rw [show (4 : Nat) ^ 4 = 256 by decide] at h2
    simp only [faceC, List.length_append]
    omega
theorem cells_len (S : Px) : (cellsP S).length ≤ 3072 := by have := faceC_len S 12; rw [faceC_all] at this; omega
set_option maxRecDepth 100000 in
set_option maxHeartbeats 4000000 in
theorem cells_any (S : Px) (w : World) : Calls Try.prog 114 #[rgV S] w (CelsQ (cellsP S) w) := by
  have x1 := BoxR.new w S
  have b1 := below_alloc w (.cells (rgA S) 98)
  have x2 := Box.new (w.alloc (.cells (rgA S) 98)) 44 #[.slice none 0 0]
  have b2 := below_alloc (w.alloc (.cells (rgA S) 98)) (.cells #[.slice none 0 0] 44)
  have x3 := Box.new ((w.alloc (.cells (rgA S) 98)).alloc (.cells #[.slice none 0 0] 44)) 99 #[lookV w.heap.size]
  have b3 := below_alloc ((w.alloc (.cells (rgA S) 98)).alloc (.cells #[.slice none 0 0] 44)) (.cells #[lookV w.heap.size] 99)
  simp only [World.size_alloc] at x2 x3
  have HC : Hid (CSt (((w.alloc (.cells (rgA S) 98)).alloc (.cells #[.slice none 0 0] 44)).alloc (.cells #[lookV w.heap.size] 99)) w.heap.size S (.slice none 0 0) [] ∧ Below w.heap.size w (((w.alloc (.cells (rgA S) 98)).alloc (.cells #[.slice none 0 0] 44)).alloc (.cells #[lookV w.heap.size] 99))) :=
    Lib.hid ⟨⟨(x1.on b2).on b3, x2.on b3, OwnP.nil _ _ _, x3, by simp⟩, (b1.trs b2).trs b3⟩
  have HFZ : Hid (faceC S 0 = []) := Lib.hid rfl
  have HFS : Hid (∀ f, faceC S f ++ lookC S 4 f = faceC S (f + 1)) := Lib.hid (fun f => rfl)
  have HFA := Lib.hid (faceC_all S)
  have h4 : (4 : Nat) ^ 4 = 256 := by decide
  have hlk : ∀ (f : Nat) (v : Value) (W : World), f < 12 → CSt W w.heap.size S v (faceC S f) → Calls Try.prog 134 #[.agg #[.int .i64 0, .int .i64 f], .pointer (some ⟨w.heap.size, 0, none⟩), .pointer (some ⟨w.heap.size + 1, 0, none⟩), .pointer (some ⟨w.heap.size + 2, 0, none⟩)] W (LookQ w.heap.size S v (faceC S f ++ lookC S 4 f) W) := fun f v W hf hC => by
    have hl := faceC_len S f
    exact look_any S w.heap.size 4 f v (faceC S f) W (by omega) (by rw [h4]; omega) (by rw [h4]; omega) hC
  have HLK := Lib.hid hlk
  clear hlk h4
  clear x1 x2 x3 b1 b2 b3
  generalize hgw : w.heap.size = g at *
  have HGW := Lib.hid hgw
  clear hgw
  unfold rgV LookQ CelsQ at *
  rw [HGW.out]
  generalize faceC S = FC at *
  generalize cellsP S = CP at *
  unfold lookV at HC
  go_enter Try.func114, Try.ntmps114
  go_upto_region 4 with (fail)
  rw [HGW.out]
  simp only [show g + 1 + 1 = g + 2 from rfl]
  generalize hW0 : (((w.alloc (.cells (rgA S) 98)).alloc (.cells #[.slice none 0 0] 44)).alloc (.cells #[.func (.func 134) #[] #[.pointer (some ⟨g, 0, none⟩), .pointer (some ⟨g + 1, 0, none⟩), .pointer (some ⟨g + 2, 0, none⟩)]] 99)) = W0 at *
  clear hW0
  go_wp2
  go_loopg [7] 12 (fun gk t wr => ∃ (f : Nat) (v' : Value), t = .int .i64 f ∧ f ≤ 12 ∧ 12 - f ≤ gk ∧ CSt wr g S v' (FC f) ∧ Below g w wr)
  case atStart => exact ⟨0, _, rfl, by omega, by omega, by rw [HFZ.out]; exact HC.out.1, HC.out.2⟩
  case round =>
    obtain ⟨f, v', rfl, hf, hgk, hC, hB⟩ := hrel
    by_cases hlt : f < 12
    · have hltI : (f : Int) < 12 := by omega
      have HCH := Lib.hid (HLK.out f v' wr hlt hC)
      have k2 := hC.2.2.2.1.cell 0
      simp at k2
      unfold lookV at k2
      have HL := Lib.hid (And.intro hlt hgk)
      have HBB := Lib.hid hB
      clear hC hB
      go_wp2_with (go_at_call 134; refine HCH.out.mono ?_; rintro e w3 ⟨rfl, h3, v3, hC3, hK3⟩)
      go_roundg (12 - (f + 1))
      case measure => have := HL.out; omega
      case rel => exact ⟨f + 1, v3, by go_num, by have := HL.out; omega, by have := HL.out; omega, by rw [← HFS.out]; exact hC3, HBB.out.trans h3⟩
    · obtain rfl : f = 12 := by omega
      rw [HFA.out] at hC
      obtain ⟨A, c, rfl, hrd⟩ := hC.2.2.1.rd
      have k2 := hC.2.1.cell 0
      simp at k2
      have HBB := Lib.hid hB
      have HRD := Lib.hid hrd
      clear hC hB hrd
      generalize hn : CP.length = n at *
      go_wp2
      go_ret
      exact ⟨HBB.out, A, c, by rw [hn]; first | done | rfl, HRD.out⟩
end Go.Proofs.Ytolgpigdioanoaa
