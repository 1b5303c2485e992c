/- Walks over package ice and its reference: metres and the column of losses. -/
import Derived.Test.YtnodeooammplfaaIceA
import Derived.StillTailTactics
namespace Go.Proofs.Ytnodeooammplfaa
set_option linter.unusedVariables false
open Go.RowKit

theorem infoInt : (Try.prog.info? 3).map (fun i => (i.zero, i.size, i.bytes)) = some (some (.int .i64 0), 1, 8) := by kernel_rfl

theorem mets_take_len {L : List (Int × Int)} (h : okL L) (i : Nat) : (mets (L.take i)).length ≤ 600 := mets_len600 (okL_take h i)
theorem part_len {L : List (Int × Int)} (h : okL L) (i j : Nat) (hi : i < L.length) (hj : (j : Int) ≤ pa L i) : (mets (L.take i) ++ List.replicate j (pb L i)).length ≤ 600 := by
  have h1 := mets_take_len h (i + 1)
  rw [mets_take_succ L i hi] at h1
  simp only [List.length_append, List.length_replicate] at *
  omega
theorem part_end {L : List (Int × Int)} (i : Nat) (hi : i < L.length) (j : Nat) (hj : (j : Int) = pa L i) : mets (L.take i) ++ List.replicate j (pb L i) = mets (L.take (i + 1)) := by
  rw [mets_take_succ L i hi]
  congr
  omega
theorem part_snoc (L : List (Int × Int)) (i j : Nat) : mets (L.take i) ++ List.replicate j (pb L i) ++ [pb L i] = mets (L.take i) ++ List.replicate (j + 1) (pb L i) := by
  rw [List.append_assoc, List.replicate_succ']

/-- the metres so far -/
def part (L : List (Int × Int)) (i j : Nat) : List Int := mets (L.take i) ++ List.replicate j (pb L i)
theorem part_zero (L : List (Int × Int)) (i : Nat) : part L i 0 = mets (L.take i) := by simp [part]

set_option maxHeartbeats 400000 in
theorem Metres_any (A : Option Addr) (c : Nat) (L : List (Int × Int)) (w : World) (hr : RdP w w.heap.size A L) (hok : okL L) :
    Calls Try.prog 28 #[.slice A L.length c] w fun e w' => Below w.heap.size w w' ∧ ∃ A' c', e = .returned (.slice A' (mets L).length c') ∧ RdI w' w'.heap.size A' (mets L) := by
  have HR := Lib.hid hr; clear hr
  have HO := Lib.hid hok
  have hn20 := hok.1
  clear hok
  have HF : Hid (∀ (v : Value) (w' : World), OwnI w' w.heap.size 3 v (mets L) → Below w.heap.size w w' → Below w.heap.size w w' ∧ ∃ A' c', Ending.returned v = .returned (.slice A' (mets L).length c') ∧ RdI w' w'.heap.size A' (mets L)) := by
    intro v w' h hb
    obtain ⟨A', c', rfl, h'⟩ := h.rd
    exact ⟨hb, A', c', rfl, h'⟩
  generalize hn : L.length = n at *
  have HN := Lib.hid hn; clear hn
  go_enter Try.func28, Try.ntmps28
  go_wp2
  go_loopg [3, 4] n (fun k v s wr => ∃ i : Nat, s = .int .i64 i ∧ i ≤ n ∧ n - i ≤ k ∧ Below w.heap.size w wr ∧ OwnI wr w.heap.size 3 v (mets (L.take i)))
  case atStart => exact ⟨0, rfl, by omega, by omega, Below.refl _ _, OwnI.nil _ _ _⟩
  case round =>
    obtain ⟨i, rfl, hi, hk, hB, hO⟩ := hrel
    by_cases hlt : i < n
    · obtain ⟨b, o, rfl, hb, c1, c2⟩ := HR.out.at_ (k := i) (by rw [HN.out]; exact hlt)
      have hbd := HO.out.2 i (by rw [HN.out]; exact hlt)
      obtain ⟨t, ht⟩ := Int.eq_ofNat_of_zero_le hbd.1
      rw [ht] at c1
      have ht30 : t ≤ 30 := by omega
      have HT := Lib.hid ht; clear ht hbd
      obtain ⟨d, hd⟩ : ∃ d, d = pb L i := ⟨_, rfl⟩
      rw [← hd] at c2
      have HD := Lib.hid hd; clear hd
      have C1 := Lib.hid c1; clear c1
      have C2 := Lib.hid c2; clear c2
      have c1 := (hB.cell hb).trans C1.out
      go_wp2
      clear c1
      go_loopg [3, 5] t (fun k v s wq => ∃ j : Nat, s = .int .i64 j ∧ j ≤ t ∧ t - j ≤ k ∧ Below w.heap.size w wq ∧ OwnI wq w.heap.size 3 v (part L i j))
      case atStart => exact ⟨0, rfl, by omega, by omega, hB, by rw [part_zero]; exact hO⟩
      case round =>
        obtain ⟨j, rfl, hj, hk2, hB2, hO2⟩ := hrel
        have c1 := (hB2.cell hb).trans C1.out
        have c2 := (hB2.cell hb).trans C2.out
        by_cases hjt : j < t
        · have hlen := part_len HO.out i j (by rw [HN.out]; exact hlt) (by rw [HT.out]; omega)
          go_wp2_with (at_builtin; refine wp_app_int 37 rfl (.tmp 21) (.tmp 27) rfl Try.underlying37 infoInt _ w.heap.size _ (part L i j) d rfl rfl hO2 (by unfold part; omega) hB2.size ?_; intro v' w' hO3 hB3 _)
          go_roundg (t - (j + 1))
          case measure => omega
          case rel => exact ⟨j + 1, by go_num, by omega, by omega, hB2.trans hB3, by
            rw [HD.out] at hO3
            unfold part at *
            rw [part_snoc] at hO3
            exact hO3⟩
        · obtain rfl : j = t := by omega
          go_wp2
          go_roundg (n - (i + 1))
          case measure => omega
          case rel => exact ⟨i + 1, by go_num, by omega, by omega, hB2, by
            rw [← part_end i (by rw [HN.out]; exact hlt) j HT.out.symm]
            exact hO2⟩
    · obtain rfl : i = n := by omega
      go_wp2
      go_ret
      have hO' := hO
      rw [List.take_of_length_le (by rw [HN.out]; exact Nat.le_refl _)] at hO'
      exact HF.out _ _ hO' hB
end Go.Proofs.Ytnodeooammplfaa
