/- Walks over package ice and its reference: slices of integers searched by a closure; the middle; the reference's light. -/
import Derived.Test.YtbocedbonaeohaaIceK
namespace Go.Proofs.Ytbocedbonaeohaa
set_option linter.unusedVariables false
open Go.RowKit

/-- a closure that tells of the integers of a list -/
def PredV (g : Nat) (lb : Array Value) (p : Int → Bool) (l : List Int) (w : World) : Prop :=
  ∀ (W : World) (i : Nat), Below w.heap.size w W → i < l.length → Calls Try.prog g (#[.int .i64 (ix l i)] ++ lb) W fun e w' => e = .returned (.bool (p (ix l i))) ∧ Below W.heap.size W w'

def DownV (L : List (Int × Int)) (a s : Int) : Value := .tuple #[.int .i64 (val (LitE L a s) (dn (mets L) a.toNat s)), .int .i64 (LitE L a s)]
def UpV (L : List (Int × Int)) (a s : Int) : Value := .tuple #[.int .i64 (val (LitE L a s) (up (mets L) a.toNat s)), .int .i64 (LitE L a s)]
def midI (l : List Int) : Int := idxF (fun k => decide (cm l l.length - cm l k ≤ cm l k)) (l.length + 1)
theorem mid_is {l : List Int} (h : ∀ d ∈ l, 0 ≤ d) : ∃ r : Nat, r ≤ l.length ∧ midI l = r ∧ cm l l.length - cm l r ≤ cm l r ∧ ∀ k, k < r → cm l k < cm l l.length - cm l k := by
  unfold midI
  rcases idxF_cases (fun k => decide (cm l l.length - cm l k ≤ cm l k)) (l.length + 1) with ⟨i, h1, h2, h3, h4⟩ | ⟨h3, h4⟩
  · simp only [decide_eq_true_eq, decide_eq_false_iff_not] at h2 h3
    exact ⟨i, by omega, h4, h2, fun k hk => by have := h3 k hk; omega⟩
  · have := h3 l.length (by omega)
    simp only [decide_eq_false_iff_not] at this
    have := sum_nn h
    have e : cm l l.length = l.sum := by unfold cm; rw [List.take_length]
    omega
theorem dn_step {l : List Int} {i : Nat} {s : Int} (hi : i < l.length) : dn l i s = if ix l i ≤ s then dn l (i + 1) (s - ix l i) else i := by
  unfold dn
  have e : l.drop i = ix l i :: l.drop (i + 1) := by rw [List.drop_eq_getElem_cons hi]; simp [ix, hi]
  rw [e, wk]
  split <;> omega
theorem dn_end {l : List Int} {i : Nat} {s : Int} (hi : l.length ≤ i) : dn l i s = i := by
  unfold dn; rw [List.drop_of_length_le hi, wk]; rfl
theorem up_step {l : List Int} {i : Nat} {s : Int} (hi : i < l.length) : up l (i + 1) s = if ix l i ≤ s then up l i (s - ix l i) else i + 1 := by
  unfold up
  have e : (l.take (i + 1)).reverse = ix l i :: (l.take i).reverse := by
    rw [List.take_succ_eq_append_getElem hi, List.reverse_append]; simp [ix, hi]
  rw [e, wk]
  split
  · have := wk_le (l.take i).reverse (s - ix l i)
    simp at this
    omega
  · omega
theorem up_zero (l : List Int) (s : Int) : up l 0 s = 0 := by unfold up; omega

theorem refdown_any (A : Option Addr) (c : Nat) (l : List Int) (a : Nat) (s : Int) (w : World) (hr : RdI w w.heap.size A l) (hm : ∀ k, 0 ≤ ix l k ∧ ix l k ≤ 100) (hl : l.length ≤ 600) (ha : a ≤ l.length) (hs : 0 ≤ s) (hs2 : s ≤ 1000000) :
    Calls Try.prog 35 #[.slice A l.length c, .int .i64 a, .int .i64 s] w fun e w' => e = .returned (.int .i64 (dn l a s)) ∧ w = w' := by
  have HR := Lib.hid hr; clear hr
  have HM := Lib.hid hm; clear hm
  have HS := Lib.hid (fun i s => dn_step (l := l) (i := i) (s := s))
  have HE := Lib.hid (fun i s => dn_end (l := l) (i := i) (s := s))
  generalize hd : dn l a s = r
  have HD := Lib.hid hd; clear hd
  generalize hn : l.length = n at *
  have HN := Lib.hid hn; clear hn
  go_enter Try.func35, Try.ntmps35
  go_wp2
  go_loopg [1, 2] n (fun k u v wr => ∃ (i : Nat) (t : Int), u = .int .i64 i ∧ v = .int .i64 t ∧ i ≤ n ∧ 0 ≤ t ∧ t ≤ 1000000 ∧ n - i ≤ k ∧ Hid (dn l i t = r) ∧ w = wr)
  case atStart => exact ⟨a, s, rfl, rfl, ha, hs, hs2, by omega, HD, rfl⟩
  case round =>
    obtain ⟨i, t, rfl, rfl, hi, ht, ht2, hk, hQ, rfl⟩ := hrel
    by_cases hlt : i < n
    · obtain ⟨b, o, rfl, hb, c1⟩ := HR.out.at_ (k := i) (by rw [HN.out]; exact hlt)
      have hst := HS.out i t (by first | exact hlt | (rw [HN.out]; exact hlt))
      have hv := HM.out i
      rw [hQ.out] at hst
      by_cases hle : ix l i ≤ t
      · rw [if_pos hle] at hst
        have HST := Lib.hid hst; clear hst hQ
        generalize ix l i = x at *
        go_wp2
        go_roundg (n - (i + 1))
        case measure => omega
        case rel => exact ⟨i + 1, t - x, by go_num, rfl, by omega, by omega, by omega, by omega, Lib.hid HST.out.symm, rfl⟩
      · rw [if_neg hle] at hst
        have HST := Lib.hid hst; clear hst hQ
        generalize ix l i = x at *
        go_wp2
        go_ret
        exact ⟨ret_int (by rw [HST.out]), rfl⟩
    · have hst := HE.out i t (by first | omega | (rw [HN.out]; omega))
      rw [hQ.out] at hst
      have HST := Lib.hid hst; clear hst hQ
      obtain rfl : i = n := by omega
      go_wp2
      go_ret
      exact ⟨ret_int (by rw [HST.out]), rfl⟩

theorem refup_any (A : Option Addr) (c : Nat) (l : List Int) (a : Nat) (s : Int) (w : World) (hr : RdI w w.heap.size A l) (hm : ∀ k, 0 ≤ ix l k ∧ ix l k ≤ 100) (hl : l.length ≤ 600) (ha : a ≤ l.length) (hs : 0 ≤ s) (hs2 : s ≤ 1000000) :
    Calls Try.prog 34 #[.slice A l.length c, .int .i64 a, .int .i64 s] w fun e w' => e = .returned (.int .i64 (up l a s)) ∧ w = w' := by
  have HR := Lib.hid hr; clear hr
  have HM := Lib.hid hm; clear hm
  have HS := Lib.hid (fun i s => up_step (l := l) (i := i) (s := s))
  have HE := Lib.hid (fun s => up_zero l s)
  generalize hd : up l a s = r
  have HD := Lib.hid hd; clear hd
  generalize hn : l.length = n at *
  have HN := Lib.hid hn; clear hn
  go_enter Try.func34, Try.ntmps34
  go_wp2
  go_loopg [1, 2] n (fun k u v wr => ∃ (i : Nat) (t : Int), u = .int .i64 i ∧ v = .int .i64 t ∧ i ≤ n ∧ 0 ≤ t ∧ t ≤ 1000000 ∧ i ≤ k ∧ Hid (up l i t = r) ∧ w = wr)
  case atStart => exact ⟨a, s, rfl, rfl, ha, hs, hs2, by omega, HD, rfl⟩
  case round =>
    obtain ⟨i, t, rfl, rfl, hi, ht, ht2, hk, hQ, rfl⟩ := hrel
    cases i with
    | zero =>
      have hst := HE.out t
      rw [hQ.out] at hst
      have HST := Lib.hid hst; clear hst hQ
      go_wp2
      go_ret
      exact ⟨ret_int (by rw [HST.out]; first | done | rfl), rfl⟩
    | succ i =>
      have hlt : i < n := by omega
      obtain ⟨b, o, rfl, hb, c1⟩ := HR.out.at_ (k := i) (by rw [HN.out]; exact hlt)
      have hst := HS.out i t (by first | exact hlt | (rw [HN.out]; exact hlt))
      have hv := HM.out i
      rw [hQ.out] at hst
      have e1 : ((i + 1 : Nat) : Int) = (i : Int) + 1 := by omega
      rw [e1]
      by_cases hle : ix l i ≤ t
      · rw [if_pos hle] at hst
        have HST := Lib.hid hst; clear hst hQ
        generalize ix l i = x at *
        go_wp2
        go_roundg i
        case measure => omega
        case rel => exact ⟨i, t - x, by first | rfl | go_num, rfl, by omega, by omega, by omega, by omega, Lib.hid HST.out.symm, rfl⟩
      · rw [if_neg hle] at hst
        have HST := Lib.hid hst; clear hst hQ
        generalize ix l i = x at *
        go_wp2
        go_ret
        exact ⟨ret_int (by rw [HST.out]; omega), rfl⟩
end Go.Proofs.Ytbocedbonaeohaa
