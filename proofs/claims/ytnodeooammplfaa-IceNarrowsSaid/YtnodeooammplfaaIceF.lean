/- Walks over package ice and its reference: the reference's Loss; the mean of a loss. -/
import Derived.Test.YtnodeooammplfaaIceE
namespace Go.Proofs.Ytnodeooammplfaa
set_option linter.unusedVariables false
open Go.RowKit

theorem lossI_le {l : List Int} {i j : Nat} (h : ix l i ≤ ix l j) : lossI l i j = ix l j - ix l i := by unfold lossI; omega
theorem lossI_comm (l : List Int) (i j : Nat) : lossI l i j = lossI l j i := by unfold lossI; omega

theorem refloss_any (A : Option Addr) (c : Nat) (l : List Int) (x y : Int) (w : World) (hr : RdI w w.heap.size A l) (hl : l.length ≤ 600) (hm : ∀ d ∈ l, 0 ≤ d ∧ d ≤ 100) (hx : 0 ≤ x) (hx' : x ≤ l.length) (hy : 0 ≤ y) (hy' : y ≤ l.length) :
    Calls Try.prog 70 #[.slice A l.length c, .int .i64 x, .int .i64 y] w fun e w' => e = .returned (.int .i64 (lossI (cum l) x.toNat y.toNat)) ∧ w = w' := by
  obtain ⟨x, rfl⟩ := Int.eq_ofNat_of_zero_le hx
  obtain ⟨y, rfl⟩ := Int.eq_ofNat_of_zero_le hy
  simp only [Int.toNat_natCast]
  have HS := Lib.hid (cum_succ l)
  have HB := Lib.hid (cum_bounds hm hl)
  have HI : Hid (∀ k, k < l.length → 0 ≤ ix l k ∧ ix l k ≤ 100) := fun k hk => hm _ (ix_mem hk)
  have HMo := Lib.hid (cum_mono l (fun d hd => (hm d hd).1))
  have HR := Lib.hid hr; clear hr hm
  generalize hn : l.length = n at *
  have HN := Lib.hid hn; clear hn
  have key : ∀ i j : Nat, i ≤ j → j ≤ n → (x : Int) ≤ n → (y : Int) ≤ n → ((x = i ∧ y = j) ∨ (x = j ∧ y = i ∧ i < j)) → Calls Try.prog 70 #[.slice A n c, .int .i64 x, .int .i64 y] w fun e w' => e = .returned (.int .i64 (ix (cum l) j - ix (cum l) i)) ∧ w = w' := by
    intro i j hij hjn hxn hyn h
    rcases h with ⟨rfl, rfl⟩ | ⟨rfl, rfl, hlt⟩
    · go_enter Try.func70, Try.ntmps70
      go_wp2
      go_loopg [7, 8] (y - x) (fun k v s wr => ∃ m : Nat, s = .int .i64 m ∧ x ≤ m ∧ m ≤ y ∧ y - m ≤ k ∧ w = wr ∧ v = .int .i64 (ix (cum l) m - ix (cum l) x))
      case atStart => exact ⟨x, rfl, by omega, by omega, by omega, rfl, by go_num⟩
      case round =>
        obtain ⟨m, rfl, hm1, hm2, hk, rfl, rfl⟩ := hrel
        have b1 := HB.out m
        have b2 := HB.out x
        by_cases hmj : m < y
        · obtain ⟨b, o, rfl, hb, c1⟩ := HR.out.at_ (k := m) (by rw [HN.out]; omega)
          have b3 := HI.out m (by omega)
          have e := HS.out m (by omega)
          have HE := Lib.hid e; clear e
          go_wp2
          go_roundg (y - (m + 1))
          case measure => omega
          case rel => exact ⟨m + 1, by go_num, by omega, by omega, by omega, rfl, by rw [HE.out]; go_num⟩
        · obtain rfl : m = y := by omega
          go_wp2
          all_goals
            go_ret
            exact ⟨rfl, rfl⟩
    · go_enter Try.func70, Try.ntmps70
      go_wp2
      go_loopg [7, 8] (x - y) (fun k v s wr => ∃ m : Nat, s = .int .i64 m ∧ y ≤ m ∧ m ≤ x ∧ x - m ≤ k ∧ w = wr ∧ v = .int .i64 (ix (cum l) m - ix (cum l) y))
      case atStart => exact ⟨y, rfl, by omega, by omega, by omega, rfl, by go_num⟩
      case round =>
        obtain ⟨m, rfl, hm1, hm2, hk, rfl, rfl⟩ := hrel
        have b1 := HB.out m
        have b2 := HB.out y
        by_cases hmj : m < x
        · obtain ⟨b, o, rfl, hb, c1⟩ := HR.out.at_ (k := m) (by rw [HN.out]; omega)
          have b3 := HI.out m (by omega)
          have e := HS.out m (by omega)
          have HE := Lib.hid e; clear e
          go_wp2
          go_roundg (x - (m + 1))
          case measure => omega
          case rel => exact ⟨m + 1, by go_num, by omega, by omega, by omega, rfl, by rw [HE.out]; go_num⟩
        · obtain rfl : m = x := by omega
          go_wp2
          all_goals
            go_ret
            exact ⟨rfl, rfl⟩
  by_cases h : x ≤ y
  · rw [lossI_le (HMo.out x y h (by omega))]
    exact key x y h (by omega) hx' hy' (.inl ⟨rfl, rfl⟩)
  · rw [lossI_comm, lossI_le (HMo.out y x (by omega) (by omega))]
    exact key y x (by omega) (by omega) hx' hy' (.inr ⟨rfl, rfl, by omega⟩)
end Go.Proofs.Ytnodeooammplfaa
