/- WvC WvD WvE WvF -/
import Derived.Test.YtkjiancdhaocaaaDoorWvB
import Derived.Test.YtkjiancdhaocaaaDoorWvLaw
import Derived.Deep.Cut
import Derived.Deep.LoopGhost
import Derived.Deep.QuietTactic
import Derived.StillTailTactics
import Derived.Deep.RegionHeld3
/- Walks over package wave: widths, words, changes. -/
namespace Go.Proofs.YtkjiancdhaocaaaDoor
open Go.RowKit
set_option linter.unusedSimpArgs false
set_option linter.unusedVariables false

/-- the widths, by their numbers -/
def wid : Nat → Nat
  | 0 => 1
  | 1 => 2
  | 2 => 3
  | 3 => 6
  | _ => 11
def okW (w : Nat) : Prop := w = 1 ∨ w = 2 ∨ w = 3 ∨ w = 6 ∨ w = 11
theorem wid_ok (k : Nat) : okW (wid k) := by
  unfold okW
  match k with
  | 0 => exact .inl rfl
  | 1 => exact .inr (.inl rfl)
  | 2 => exact .inr (.inr (.inl rfl))
  | 3 => exact .inr (.inr (.inr (.inl rfl)))
  | _ + 4 => exact .inr (.inr (.inr (.inr rfl)))
def hf (w : Nat) : Int := 2 ^ (w - 1)
theorem hf_le {w : Nat} (h : okW w) : 1 ≤ hf w ∧ hf w ≤ 1024 := by
  unfold hf
  rcases h with rfl | rfl | rfl | rfl | rfl <;> decide
def canD (w : Nat) (n : Int) : Bool := btw (1 - hf w) n (hf w - 1)
set_option maxHeartbeats 1000000 in
theorem wvbetween_any (a n b : Int) (w : World) : Calls Tryd.prog 40 #[.int .i64 a, .int .i64 n, .int .i64 b] w fun e w' => e = .returned (.bool (btw a n b)) ∧ w' = w := by
  unfold btw
  by_cases h1 : a ≤ n
  · have h1' : ¬ n < a := by omega
    by_cases h2 : n ≤ b
    · have h2' : ¬ b < n := by omega
      go_enter Tryd.func40, Tryd.ntmps40
      go_wp2
      go_ret
      exact ⟨by simp [h1, h2], rfl⟩
    · have h2' : b < n := by omega
      go_enter Tryd.func40, Tryd.ntmps40
      go_wp2
      go_ret
      exact ⟨by simp [h1, h2], rfl⟩
  · have h1' : n < a := by omega
    go_enter Tryd.func40, Tryd.ntmps40
    go_wp2
    go_ret
    exact ⟨by rw [decide_eq_false (show ¬ a ≤ n by omega), Bool.false_and]; rfl, rfl⟩
set_option maxHeartbeats 1000000 in
theorem half_any (n : Nat) (w : World) (hn : okW n) : Calls Tryd.prog 51 #[.int .i64 n] w fun e w' => e = .returned (.int .i64 (hf n)) ∧ w' = w := by
  rcases hn with rfl | rfl | rfl | rfl | rfl
  all_goals
    go_enter Tryd.func51, Tryd.ntmps51
    go_wp2
    go_ret
    exact ⟨rfl, rfl⟩
set_option maxHeartbeats 1000000 in
theorem has_any (n : Nat) (d : Int) (w : World) (hn : okW n) : Calls Tryd.prog 28 #[.int .i64 n, .int .i64 d] w fun e w' => e = .returned (.bool (canD n d)) ∧ w' = w := by
  have HH := Lib.hid (fun W => half_any n W hn)
  have hh := hf_le hn
  have HB := Lib.hid (fun W => wvbetween_any (1 - hf n) d (hf n - 1) W)
  have e1 : IntKind.i64.wrap (1 - hf n) = 1 - hf n := IntWalk.i64_in _ (by omega)
  have e2 : IntKind.i64.wrap (hf n - 1) = hf n - 1 := IntWalk.i64_in _ (by omega)
  have e3 : wrap64 (1 - hf n) = 1 - hf n := IntWalk.wrap64_in _ (by omega)
  have e4 : wrap64 (hf n - 1) = hf n - 1 := IntWalk.wrap64_in _ (by omega)
  unfold canD
  clear hn hh
  generalize hf n = h at *
  generalize btw (1 - h) d (h - 1) = r at *
  go_enter Tryd.func28, Tryd.ntmps28
  go_wp2_with (first
    | (go_at_call 51; refine (HH.out _).mono ?_; rintro e w' ⟨rfl, rfl⟩)
    | (go_at_call 40; refine (HB.out _).mono ?_; rintro e w' ⟨rfl, rfl⟩))
  go_ret
  exact ⟨rfl, rfl⟩
/-! ### words -/
def bitC (n : Int) (i : Nat) : UInt8 := if n / 2 ^ i % 2 = 1 then 49 else 48
def wordB (w : Nat) (n : Int) : Tx := (List.range w).map fun j => bitC n (w - 1 - j)
theorem wordB_len (w : Nat) (n : Int) : (wordB w n).length = w := by simp [wordB]
theorem bits_fin : ∀ x : Fin 2048, bits .and .i64 ((x.val : Int) - 1024) 1 = ((x.val : Int) - 1024) % 2 := by decide +kernel
theorem and_bit {x : Int} (h0 : -1024 ≤ x) (h1 : x ≤ 1023) : bits .and .i64 x 1 = x % 2 := by
  have := bits_fin ⟨(x + 1024).toNat, by omega⟩
  simp only at this
  rwa [show ((x + 1024).toNat : Int) - 1024 = x by omega] at this
theorem div_small {n : Int} (h0 : -1024 ≤ n) (h1 : n ≤ 1023) (i : Nat) : -1024 ≤ n / 2 ^ i ∧ n / 2 ^ i ≤ 1023 := by
  have hp : (0 : Int) < 2 ^ i := Int.pow_pos (by decide)
  constructor
  · rw [Int.le_ediv_iff_mul_le hp]
    have : (1 : Int) ≤ 2 ^ i := hp
    have := Int.mul_le_mul_of_nonneg_left this (show (0 : Int) ≤ 1024 by decide)
    omega
  · refine Int.ediv_le_of_le_mul hp ?_
    have : (1 : Int) ≤ 2 ^ i := hp
    have := Int.mul_le_mul_of_nonneg_left this (show (0 : Int) ≤ 1023 by decide)
    omega
theorem bit_num (n : Int) (i : Nat) : (bitC n i).toNat = (48 + n / 2 ^ i % 2 : Int) := by
  unfold bitC
  have h1 := Int.emod_nonneg (n / 2 ^ i) (show (2 : Int) ≠ 0 by decide)
  have h2 := Int.emod_lt_of_pos (n / 2 ^ i) (show (0 : Int) < 2 by decide)
  split
  · next h => rw [h]; rfl
  · next h => rw [show n / 2 ^ i % 2 = 0 by omega]; rfl
theorem word_take {w : Nat} {n : Int} {j : Nat} (h : j < w) : (wordB w n).take j ++ [bitC n (w - 1 - j)] = (wordB w n).take (j + 1) := by
  rw [List.take_succ_eq_append_getElem (by rw [wordB_len]; exact h)]
  simp [wordB]
set_option maxRecDepth 100000 in
set_option maxHeartbeats 4000000 in
theorem word_any (n : Nat) (d : Int) (w : World) (hn : 1 ≤ n ∧ n ≤ 11) (h0 : -1024 ≤ d) (h1 : d ≤ 1023) : Calls Tryd.prog 44 #[.int .i64 n, .int .i64 d] w fun e w' => e = .returned (.string ⟨(wordB n d).toArray⟩) ∧ Below w.heap.size w w' := by
  have HT := Lib.hid (fun j (h : j < n) => word_take (n := d) h)
  have HL : Hid ((wordB n d).take n = wordB n d) := Lib.hid (by rw [List.take_of_length_le (by rw [wordB_len]; omega)])
  have HN : Hid (wordB n d ≠ []) := Lib.hid (fun e => by have := wordB_len n d; rw [e] at this; simp at this; omega)
  have HBN := Lib.hid (bit_num d)
  have HAB := Lib.hid (fun i => and_bit (div_small h0 h1 i).1 (div_small h0 h1 i).2)
  have hw0 : IntKind.i64.wrap ((n : Int) - 1) = (n : Int) - 1 := IntWalk.i64_in _ (by omega)
  have hw1 : wrap64 ((n : Int) - 1) = (n : Int) - 1 := IntWalk.wrap64_in _ (by omega)
  have HF := Lib.hid (Bld.fresh w)
  have HBL := Lib.hid (below_alloc w (.cells #[.pointer none, .slice none 0 0] 78))
  have HTL : Hid (∀ j, ((wordB n d).take j).length ≤ n) := Lib.hid (fun j => by rw [List.length_take, wordB_len]; omega)
  have HT0 : Hid ((wordB n d).take 0 = []) := Lib.hid rfl
  generalize wordB n d = W at *
  go_enter Tryd.func44, Tryd.ntmps44
  go_upto_region 2 with (fail)
  generalize hW0 : w.alloc (.cells #[.pointer none, .slice none 0 0] 78) = W0 at *
  clear hW0
  go_wp2
  go_loopg [6] (n + 1) (fun gk t wr => ∃ j : Nat, t = .int .i64 ((n : Int) - 1 - j) ∧ j ≤ n ∧ n - j ≤ gk ∧ Bld w.heap.size w.heap.size (W.take j) wr ∧ Below w.heap.size w wr)
  case atStart => exact ⟨0, by simp, by omega, by omega, by rw [HT0.out]; exact HF.out, HBL.out⟩
  case round =>
    obtain ⟨j, rfl, hj, hgk, hX, hB⟩ := hrel
    by_cases hlt : j < n
    · obtain ⟨i, hi, hin⟩ : ∃ i : Nat, (n : Int) - 1 - j = i ∧ n - 1 - j = i := ⟨n - 1 - j, by omega, rfl⟩
      have hj2 : (n : Int) - 1 - ((j + 1 : Nat) : Int) = (i : Int) - 1 := by omega
      have hs1 : IntKind.i64.wrap ((i : Int) - 1) = (i : Int) - 1 := IntWalk.i64_in _ (by omega)
      have hs2 : wrap64 ((i : Int) - 1) = (i : Int) - 1 := IntWalk.wrap64_in _ (by omega)
      have HTj := Lib.hid (HT.out j hlt)
      have htl := HTL.out j
      have hm := HAB.out i
      have hc := HBN.out i
      have hm0 := Int.emod_nonneg (d / 2 ^ i) (show (2 : Int) ≠ 0 by decide)
      have hm1 := Int.emod_lt_of_pos (d / 2 ^ i) (show (0 : Int) < 2 by decide)
      have HWB := Lib.hid (fun W' h => WriteByte_any w.heap.size w.heap.size (W.take j) (bitC d i) W' h (by omega))
      rw [hin] at HTj
      rw [HTj.out] at HWB
      generalize d / 2 ^ i % 2 = m at *
      have hu1 : m % 256 = m := by omega
      have hu2 : (48 + m) % 256 = 48 + m := by omega
      have hmi : min i 64 = i := by omega
      rw [hc] at HWB
      have HX := Lib.hid (And.intro hX hB)
      have HJ := Lib.hid (And.intro hlt (And.intro hgk hj2))
      have hi0 : ¬ (i : Int) < 0 := by omega
      rw [hi]
      clear hX hB hc hi hin hj2 hgk hj hlt HTj
      go_wp2_with (go_at_call 57; refine (HWB.out _ HX.out.1 HX.out.2.size).mono ?_; rintro e w2 ⟨rfl, h2, h3⟩)
      go_roundg (n - (j + 1))
      case measure => have := HJ.out; omega
      case rel => exact ⟨j + 1, by rw [HJ.out.2.2], by have := HJ.out; omega, by have := HJ.out; omega, h2, HX.out.2.trans h3⟩
    · obtain rfl : j = n := by omega
      have hi0 : (j : Int) - 1 - (j : Int) < 0 := by omega
      rw [show (j : Int) - 1 - (j : Int) = -1 by omega]
      have HX := Lib.hid hX
      rw [HL.out] at hX
      have HS := Lib.hid (String_any _ _ _ _ hX HN.out)
      have HBB := Lib.hid hB
      clear hX hB hi0
      go_wp2_with (go_at_call 49; refine HS.out.mono ?_; rintro e w2 ⟨rfl, h2⟩)
      go_ret
      exact ⟨rfl, HBB.out.trans h2⟩
end Go.Proofs.YtkjiancdhaocaaaDoor

/- Walks over package wave: changes of width, the better one of two texts, a text with some bits in front. -/
namespace Go.Proofs.YtkjiancdhaocaaaDoor
open Go.RowKit
set_option linter.unusedSimpArgs false
set_option linter.unusedVariables false

/-- a text as a value -/
def txV (l : Tx) : Value := .string ⟨l.toArray⟩
def chg (k : Nat) (up : Bool) : Tx := wordB (wid k) (-(hf (wid k))) ++ [if up then 49 else 48]
theorem ba_app (a b : Tx) : (⟨a.toArray⟩ : ByteArray) ++ ⟨b.toArray⟩ = ⟨(a ++ b).toArray⟩ := by
  apply ByteArray.ext
  simp
set_option maxHeartbeats 1000000 in
theorem change_any (k : Nat) (up : Bool) (w : World) : Calls Tryd.prog 46 #[.int .i64 (wid k), .bool up] w fun e w' => e = .returned (.string ⟨(chg k up).toArray⟩) ∧ Below w.heap.size w w' := by
  have hok := wid_ok k
  have hh := hf_le hok
  have HH := Lib.hid (fun W => half_any (wid k) W hok)
  have HW := Lib.hid (fun W => word_any (wid k) (-(hf (wid k))) W (by rcases hok with h | h | h | h | h <;> omega) (by omega) (by omega))
  have hl : (wordB (wid k) (-(hf (wid k)))).length ≤ 11 := by rw [wordB_len]; rcases hok with h | h | h | h | h <;> omega
  have e1 : IntKind.i64.wrap (-(hf (wid k))) = -(hf (wid k)) := IntWalk.i64_in _ (by omega)
  have e2 : wrap64 (-(hf (wid k))) = -(hf (wid k)) := IntWalk.wrap64_in _ (by omega)
  unfold chg
  generalize wordB (wid k) (-(hf (wid k))) = W at *
  have hb : ¬ 9223372036854775807 < W.length + 1 := by omega
  have a1 : (⟨W.toArray⟩ : ByteArray) ++ ⟨#[49]⟩ = ⟨(W ++ [49]).toArray⟩ := ba_app W [49]
  have a0 : (⟨W.toArray⟩ : ByteArray) ++ ⟨#[48]⟩ = ⟨(W ++ [48]).toArray⟩ := ba_app W [48]
  clear hok hh hl
  generalize hf (wid k) = h at *
  generalize wid k = n at *
  cases up
  all_goals
    go_enter Tryd.func46, Tryd.ntmps46
    go_wp2_with (first
      | (go_at_call 51; refine (HH.out _).mono ?_; rintro e w' ⟨rfl, rfl⟩)
      | (go_at_call 44; refine (HW.out _).mono ?_; rintro e w1 ⟨rfl, h1⟩))
    go_ret
    exact ⟨by first | rfl | simp, h1⟩
/-- a text, or none, in memory -/
def PtrT (w : World) (v : Value) : Ot → Prop
  | none => v = .pointer none
  | some t => ∃ b, v = .pointer (some ⟨b, 0, none⟩) ∧ b < w.heap.size ∧ w.cell? ⟨b, 0, none⟩ = some (.string ⟨t.toArray⟩)
theorem PtrT.on {w w' : World} {v : Value} {t : Ot} (h : PtrT w v t) (hb : Below w.heap.size w w') : PtrT w' v t := by
  cases t with
  | none => exact h
  | some t =>
    obtain ⟨b, rfl, hl, hc⟩ := h
    exact ⟨b, rfl, Nat.lt_of_lt_of_le hl hb.size, (hb.cell (p := ⟨b, 0, none⟩) hl).trans hc⟩
set_option maxRecDepth 100000 in
set_option maxHeartbeats 2000000 in
theorem before_any (s : Tx) (v : Value) (t : Ot) (w : World) (hs : s.length ≤ 1000000000) (ht : ∀ x, t = some x → x.length ≤ 1000000000) (h : PtrT w v t) :
    Calls Tryd.prog 43 #[.string ⟨s.toArray⟩, v] w fun e w' => ∃ v', e = .returned v' ∧ PtrT w' v' (pre s t) ∧ Below w.heap.size w w' := by
  have hBl := below_alloc w (.cells #[.string ⟨s.toArray⟩] 9)
  have hbx := Box.new w 9 #[.string ⟨s.toArray⟩]
  cases t with
  | none =>
    obtain rfl : v = .pointer none := h
    have HBL := Lib.hid hBl
    clear hbx hBl
    go_enter Tryd.func43, Tryd.ntmps43
    go_wp2
    go_ret
    exact ⟨_, rfl, rfl, HBL.out⟩
  | some x =>
    obtain ⟨b, rfl, hl, hc⟩ := h
    have hx := ht x rfl
    have HBL := Lib.hid hBl
    have HBX := Lib.hid hbx
    have hc2 := (hBl.cell (p := ⟨b, 0, none⟩) hl).trans hc
    have hl2 : b < (w.alloc (.cells #[.string ⟨s.toArray⟩] 9)).heap.size := by rw [World.size_alloc]; omega
    have hne : b ≠ w.heap.size := by omega
    clear hbx hBl hc ht
    have hb : ¬ 9223372036854775807 < s.length + x.length := by omega
    have a1 : (⟨s.toArray⟩ : ByteArray) ++ ⟨x.toArray⟩ = ⟨(s ++ x).toArray⟩ := ba_app s x
    go_enter Tryd.func43, Tryd.ntmps43
    go_upto_region 1 with (fail)
    generalize hW0 : w.alloc (.cells #[.string ⟨s.toArray⟩] 9) = W0 at *
    clear hW0
    generalize hgg : w.heap.size = g at *
    have HG := Lib.hid hgg
    clear hgg
    go_wp2
    refine wp_region_still_tail 5 (by kernel_rfl) (by kernel_rfl) ?_
    simp only [List.take_succ_cons, List.take_zero, List.drop_succ_cons, List.drop_zero]
    change wpStill _ _ (W0.drewN 1) (fun a' => wpList _ _ _ _ a' (W0.drewN 1)) _ _
    have hc3 : (W0.drewN 1).cell? ⟨b, 0, none⟩ = some (.string ⟨x.toArray⟩) := hc2
    have HB2 := Lib.hid (HBL.out.drewsN 1)
    have HBX2 := Lib.hid (HBX.out.on ((Below.refl _ _).drewsN 1))
    clear hc2
    generalize W0.drewN 1 = W1 at *
    have hcn3 : W1.cell? ⟨g, 0, none⟩ = some (.string ⟨s.toArray⟩) := HBX2.out.cell 0
    have hfn3 := HBX2.out.frozen 0
    repeat (refine wpStill_step (fun K hK => ?_); go_simp; (first | refine hK _ ?_ | (go_values; refine hK _ ?_) | (go_values; go_simp; refine hK _ ?_) | (go_ite <;> go_prune <;> (try go_simp); refine hK _ ?_)); clear hK K)
    refine wpStill_nil ?_
    go_wp2
    go_ret
    have hset := HBX2.out.set_ 0 (.string ⟨(s ++ x).toArray⟩)
    refine ⟨_, rfl, ⟨g, rfl, hset.lt, ?_⟩, ?_⟩
    · have := hset.cell 0; simpa using this
    · rw [HG.out]
      exact HB2.out.setCell (p := ⟨g, 0, none⟩) (Nat.le_refl _) _
/-- the test of better, as the walk has it -/
theorem leT_parts (a b : Tx) : leT a b = (decide ((a.length : Int) < (b.length : Int)) || (decide ((a.length : Int) = (b.length : Int)) && (Go.Op.bytesLess a b || a == b))) := by
  unfold leT
  congr 1
  · rw [decide_eq_decide]; omega
  · congr 1
    rw [decide_eq_decide]; omega
set_option maxRecDepth 100000 in
set_option maxHeartbeats 4000000 in
theorem better_any (u v : Value) (a b : Ot) (w : World) (ha : PtrT w u a) (hb : PtrT w v b) :
    Calls Tryd.prog 45 #[u, v] w fun e w' => ∃ v', e = .returned v' ∧ (v' = u ∨ v' = v) ∧ PtrT w' v' (better a b) ∧ Below w.heap.size w w' := by
  cases a with
  | none =>
    obtain rfl : u = .pointer none := ha
    have HB := Lib.hid hb
    go_enter Tryd.func45, Tryd.ntmps45
    go_wp2
    go_ret
    exact ⟨_, rfl, .inr rfl, HB.out, Below.refl _ _⟩
  | some x =>
    have HA := Lib.hid ha
    obtain ⟨p, rfl, hl, hc⟩ := ha
    cases b with
    | none =>
      obtain rfl : v = .pointer none := hb
      go_enter Tryd.func45, Tryd.ntmps45
      go_wp2
      go_quiet (fail)
      go_wp2
      go_ret
      exact ⟨_, rfl, .inl rfl, HA.out.on ((Below.refl _ _).drewsN _), (Below.refl _ _).drewsN _⟩
    | some y =>
      have HB := Lib.hid hb
      obtain ⟨q, rfl, hl2, hc2⟩ := hb
      have HLT : Hid (∀ r, leT x y = r → better (some x) (some y) = if r then some x else some y) := Lib.hid (fun r h => by rw [← h]; simp only [better])
      have hxt : (⟨x.toArray⟩ : ByteArray).toList = x := ByteArray.toList_mk x
      have hyt : (⟨y.toArray⟩ : ByteArray).toList = y := ByteArray.toList_mk y
      have hcs : (decide (x.length < y.length) = true ∧ leT x y = true) ∨ (decide (x.length < y.length) = false ∧ ((x.length : Int) == (y.length : Int)) = false ∧ decide (x.length = y.length) = false ∧ leT x y = false) ∨
          (decide (x.length < y.length) = false ∧ ((x.length : Int) == (y.length : Int)) = true ∧ decide (x.length = y.length) = true ∧ (Go.Op.bytesLess x y || x == y) = leT x y) := by
        unfold leT
        by_cases h1 : x.length < y.length
        · left; simp [h1]
        · by_cases h2 : x.length = y.length
          · right; right; simp [h1, h2]
          · right; left; simp [h1, h2]; omega
      generalize better (some x) (some y) = bt at *
      generalize leT x y = le at *
      rcases hcs with ⟨h1, rfl⟩ | ⟨h1, h2, h2', rfl⟩ | ⟨h1, h2, h2', h3⟩
      · have HR := Lib.hid (HLT.out true rfl)
        go_enter Tryd.func45, Tryd.ntmps45
        go_wp2
        go_quiet (fail)
        go_wp2
        go_ret
        exact ⟨_, rfl, .inl rfl, by rw [HR.out]; exact HA.out.on ((Below.refl _ _).drewsN _), (Below.refl _ _).drewsN _⟩
      · have HR := Lib.hid (HLT.out false rfl)
        go_enter Tryd.func45, Tryd.ntmps45
        go_wp2
        go_quiet (fail)
        go_wp2
        go_ret
        exact ⟨_, rfl, .inr rfl, by rw [HR.out]; exact HB.out.on ((Below.refl _ _).drewsN _), (Below.refl _ _).drewsN _⟩
      · have HR := Lib.hid (HLT.out le rfl)
        cases le
        · go_enter Tryd.func45, Tryd.ntmps45
          go_wp2
          go_quiet (fail)
          go_wp2
          go_ret
          exact ⟨_, rfl, .inr rfl, by rw [HR.out]; exact HB.out.on ((Below.refl _ _).drewsN _), (Below.refl _ _).drewsN _⟩
        · go_enter Tryd.func45, Tryd.ntmps45
          go_wp2
          go_quiet (fail)
          go_wp2
          go_ret
          exact ⟨_, rfl, .inl rfl, by rw [HR.out]; exact HA.out.on ((Below.refl _ _).drewsN _), (Below.refl _ _).drewsN _⟩
end Go.Proofs.YtkjiancdhaocaaaDoor

/- Walks over package wave: lists searched by a closure; Valid, differences, the array of widths. -/
namespace Go.Proofs.YtkjiancdhaocaaaDoor
open Go.RowKit
set_option linter.unusedSimpArgs false
set_option linter.unusedVariables false

theorem infoInt : (Tryd.prog.info? 3).map (fun i => (i.zero, i.size, i.bytes)) = some (some (.int .i64 0), 1, 8) := by kernel_rfl
/-- a closure that tells of the integers of a list -/
def PredV (g : Nat) (lb : Array Value) (p : Int → Bool) (l : List Int) (w : World) : Prop :=
  ∀ (W : World) (i : Nat), Below w.heap.size w W → i < l.length → Calls Tryd.prog g (#[.int .i64 (ix l i)] ++ lb) W fun e w' => e = .returned (.bool (p (ix l i))) ∧ Below W.heap.size W w'

theorem IndexFuncI_any (g : Nat) (lb : Array Value) (A : Option Addr) (c : Nat) (l : List Int) (p : Int → Bool) (w : World) (hr : RdI w w.heap.size A l) (hl : l.length ≤ 1000000)
  (eg : ∀ args w, (callFunc g args).run Tryd.prog w = .ok (.enter g args) w) (hp : PredV g lb p l w) :
    Calls Tryd.prog 26 #[.slice A l.length c, .func (.func g) #[] lb] w fun e w' => e = .returned (.int .i64 (idxF (fun k => p (ix l k)) l.length)) ∧ Below w.heap.size w w' := by
  have HP := Lib.hid hp; clear hp
  unfold PredV at HP
  have HR := Lib.hid hr; clear hr
  generalize hq : idxF (fun k => p (ix l k)) l.length = res
  have HQ := Lib.hid hq; clear hq
  generalize hn : l.length = n at *
  have HN := Lib.hid hn; clear hn
  go_enter Tryd.func26, Tryd.ntmps26
  go_wp2
  go_loopg [8] n (fun k s wr => ∃ i : Nat, s = .int .i64 i ∧ i ≤ n ∧ n - i ≤ k ∧ Below w.heap.size w wr ∧ Aside (∀ t, t < i → p (ix l t) = false))
  case atStart => exact ⟨0, rfl, by omega, by omega, Below.refl _ _, (fun t ht => absurd ht (Nat.not_lt_zero t) : ∀ t, t < 0 → p (ix l t) = false)⟩
  case round =>
    obtain ⟨i, rfl, hi, hk, hB, HA⟩ := hrel
    by_cases hlt : i < n
    · obtain ⟨b, o, rfl, hb, c1⟩ := HR.out.at_ (k := i) (by rw [HN.out]; exact hlt)
      rw [← hB.cell hb] at c1
      have hcall := HP.out wr i hB (by first | exact hlt | (rw [HN.out]; exact hlt))
      cases hpi : p (ix l i)
      all_goals
        rw [hpi] at hcall
        have HPI := Lib.hid hpi; clear hpi
        go_wp2_with (go_at_fn g; refine hcall.mono ?_; rintro e w' ⟨rfl, hB'⟩)
      · go_roundg (n - (i + 1))
        case measure => omega
        case rel => exact ⟨i + 1, by go_num, by omega, by omega, hB.trs hB', fun t ht => by
            rcases Nat.lt_succ_iff_lt_or_eq.1 ht with h | rfl
            · exact HA.out t h
            · exact HPI.out⟩
      · go_ret
        exact ⟨ret_int (by rw [← HQ.out]; exact (idxF_hit hlt HPI.out HA.out).symm), hB.trs hB'⟩
    · obtain rfl : i = n := by omega
      go_wp2
      go_ret
      exact ⟨ret_int (by rw [← HQ.out]; exact (idxF_miss HA.out).symm), hB⟩

theorem ContainsFuncI_any (g : Nat) (lb : Array Value) (A : Option Addr) (c : Nat) (l : List Int) (p : Int → Bool) (w : World) (hr : RdI w w.heap.size A l) (hl : l.length ≤ 1000000)
  (eg : ∀ args w, (callFunc g args).run Tryd.prog w = .ok (.enter g args) w) (hp : PredV g lb p l w) :
    Calls Tryd.prog 29 #[.slice A l.length c, .func (.func g) #[] lb] w fun e w' => e = .returned (.bool (anyF (fun k => p (ix l k)) l.length)) ∧ Below w.heap.size w w' := by
  have HI := Lib.hid (IndexFuncI_any g lb A c l p w hr hl eg hp)
  unfold anyF
  clear hr hp
  generalize idxF (fun k => p (ix l k)) l.length = r at *
  generalize l.length = n at *
  go_enter Tryd.func29, Tryd.ntmps29
  go_wp2_with (go_at_call 26; refine HI.out.mono ?_; rintro e w1 ⟨rfl, h1⟩)
  go_ret
  exact ⟨rfl, h1⟩


/-! ### which wave forms are valid -/
def smpB (x : Int) : Bool := btw 0 x 1023
def badW (l : List Int) : Bool := anyF (fun k => !(smpB (ix l k))) l.length
def vldW (l : List Int) : Bool := btw 1 l.length 40 && !(badW l)
theorem vldW_iff {l : List Int} : vldW l = true ↔ 1 ≤ l.length ∧ l.length ≤ 40 ∧ ∀ k, k < l.length → 0 ≤ ix l k ∧ ix l k ≤ 1023 := by
  unfold vldW
  rw [Bool.and_eq_true, btw_iff, Bool.not_eq_true']
  unfold badW
  rw [anyF_no]
  constructor
  · rintro ⟨⟨h1, h2⟩, h3⟩
    refine ⟨by omega, by omega, fun k hk => ?_⟩
    have := h3 k hk
    simp only [Bool.not_eq_false', smpB, btw_iff] at this
    exact this
  · rintro ⟨h1, h2, h3⟩
    refine ⟨⟨by omega, by omega⟩, fun k hk => ?_⟩
    simp only [Bool.not_eq_false', smpB, btw_iff]
    exact h3 k hk
set_option maxHeartbeats 1000000 in
theorem valid1_any (x : Int) (w : World) : Calls Tryd.prog 41 #[.int .i64 x] w fun e w' => e = .returned (.bool (!(smpB x))) ∧ w' = w := by
  have HB := Lib.hid (fun W => wvbetween_any 0 x 1023 W)
  unfold smpB
  generalize btw 0 x 1023 = r at *
  go_enter Tryd.func41, Tryd.ntmps41
  go_wp2_with (go_at_call 40; refine (HB.out _).mono ?_; rintro e w' ⟨rfl, rfl⟩)
  go_ret
  exact ⟨rfl, rfl⟩
set_option maxHeartbeats 1000000 in
theorem Valid_any (A : Option Addr) (c : Nat) (l : List Int) (w : World) (hr : RdI w w.heap.size A l) (hl : l.length ≤ 1000000) :
    Calls Tryd.prog 20 #[.slice A l.length c] w fun e w' => e = .returned (.bool (vldW l)) ∧ Below w.heap.size w w' := by
  have HC := Lib.hid (ContainsFuncI_any 41 #[] A c l (fun x => !(smpB x)) w hr hl (enters_of Tryd.func41 (by kernel_rfl) rfl) (fun W i _ _ => (valid1_any _ W).mono fun e w' h => ⟨h.1, by rw [h.2]; exact Below.refl _ _⟩))
  have HB := Lib.hid (fun W => wvbetween_any 1 l.length 40 W)
  have HV : Hid (vldW l = (btw 1 l.length 40 && !(badW l))) := Lib.hid rfl
  rw [show anyF (fun k => !(smpB (ix l k))) l.length = badW l from rfl] at HC
  generalize vldW l = v at *
  generalize badW l = b at *
  clear hr hl
  generalize l.length = n at *
  generalize btw 1 (n : Int) 40 = r at *
  cases r
  · go_enter Tryd.func20, Tryd.ntmps20
    go_wp2_with (first
      | (go_at_call 40; refine (HB.out _).mono ?_; rintro e w' ⟨rfl, rfl⟩)
      | (go_at_call 29; refine HC.out.mono ?_; rintro e w1 ⟨rfl, h1⟩))
    go_ret
    exact ⟨ret_bool (by rw [HV.out]; rfl), Below.refl _ _⟩
  · go_enter Tryd.func20, Tryd.ntmps20
    go_wp2_with (first
      | (go_at_call 40; refine (HB.out _).mono ?_; rintro e w' ⟨rfl, rfl⟩)
      | (go_at_call 29; refine HC.out.mono ?_; rintro e w1 ⟨rfl, h1⟩))
    go_ret
    exact ⟨ret_bool (by rw [HV.out]; simp), h1⟩
/-! ### differences -/
def difA (l : List Int) (i : Nat) : Int := ix l i - if i = 0 then 0 else ix l (i - 1)
def difN (l : List Int) (n : Nat) : List Int := (List.range n).map (difA l)
def difs (l : List Int) : List Int := difN l l.length
theorem difN_len (l : List Int) (n : Nat) : (difN l n).length = n := by simp [difN]
theorem difs_len (l : List Int) : (difs l).length = l.length := difN_len _ _
theorem difN_succ (l : List Int) (n : Nat) : difN l n ++ [difA l n] = difN l (n + 1) := by simp [difN, List.range_succ]
theorem difs_ix (l : List Int) {i : Nat} (hi : i < l.length) : ix (difs l) i = difA l i := by simp [ix, difs, difN, hi]
theorem difA_small {l : List Int} (h : vldW l = true) {i : Nat} (hi : i < l.length) : -1023 ≤ difA l i ∧ difA l i ≤ 1023 := by
  obtain ⟨h1, h2, h3⟩ := vldW_iff.1 h
  unfold difA
  have h4 := h3 i hi
  split
  · omega
  · have h5 := h3 (i - 1) (by omega)
    omega
/-- a list of its own -/
def LisQ (l : List Int) (w : World) (e : Ending) (w' : World) : Prop := Below w.heap.size w w' ∧ ∃ A c, e = .returned (.slice A l.length c) ∧ RdI w' w'.heap.size A l
set_option maxRecDepth 100000 in
set_option maxHeartbeats 2000000 in
theorem differences_any (A : Option Addr) (c : Nat) (l : List Int) (w : World) (hr : RdI w w.heap.size A l) (hl : l.length ≤ 1000) (hv : ∀ k, k < l.length → 0 ≤ ix l k ∧ ix l k ≤ 1023) :
    Calls Tryd.prog 23 #[.slice A l.length c] w (LisQ (difs l) w) := by
  have HR := Lib.hid hr
  have HV := Lib.hid hv
  have HS := Lib.hid (difN_succ l)
  have HLN := Lib.hid (difN_len l)
  have HDA : Hid (∀ i, difA l i = ix l i - if i = 0 then 0 else ix l (i - 1)) := Lib.hid (fun _ => rfl)
  have HD0 : Hid (difN l 0 = []) := Lib.hid rfl
  have HDS : Hid (difN l l.length = difs l) := Lib.hid rfl
  have HDL := Lib.hid (difs_len l)
  clear hr hv
  generalize difs l = ds at *
  obtain ⟨dn, hdn⟩ : ∃ dn, dn = difN l := ⟨_, rfl⟩
  rw [← hdn] at HS HLN HD0 HDS
  clear hdn
  generalize hn : l.length = n at *
  have HN := Lib.hid hn; clear hn
  go_enter Tryd.func23, Tryd.ntmps23
  go_wp2
  go_loopg [3, 4, 9] n (fun gk u v t wr => ∃ i : Nat, t = .int .i64 i ∧ v = .int .i64 (if i = 0 then 0 else ix l (i - 1)) ∧ i ≤ n ∧ n - i ≤ gk ∧ OwnI wr w.heap.size 3 u (dn i) ∧ Below w.heap.size w wr)
  case atStart => exact ⟨0, rfl, rfl, by omega, by omega, by rw [HD0.out]; exact OwnI.nil _ _ _, Below.refl _ _⟩
  case round =>
    obtain ⟨i, rfl, rfl, hi, hgk, hO, hB⟩ := hrel
    by_cases hlt : i < n
    · obtain ⟨b, o, rfl, hb, c1⟩ := HR.out.at_ (k := i) (by rw [HN.out]; exact hlt)
      rw [← hB.cell hb] at c1
      have hv1 := HV.out i hlt
      have hv0 : 0 ≤ (if i = 0 then 0 else ix l (i - 1)) ∧ (if i = 0 then 0 else ix l (i - 1)) ≤ 1023 := by
        split
        · omega
        · exact HV.out (i - 1) (by omega)
      have HSi := Lib.hid (HS.out i)
      have HAi := Lib.hid (HDA.out i)
      have HOO := Lib.hid hO
      have HBB := Lib.hid hB
      have hln := HLN.out i
      have HL := Lib.hid (And.intro hlt hgk)
      have hnx : Hid ((if i + 1 = 0 then 0 else ix l (i + 1 - 1)) = ix l i) := Lib.hid (by rw [if_neg (by omega), Nat.add_sub_cancel])
      clear hO hB hgk
      generalize (if i = 0 then 0 else ix l (i - 1)) = la at *
      generalize ix l i = x at *
      have e1 : IntKind.i64.wrap (x - la) = x - la := IntWalk.i64_in _ (by omega)
      have e2 : wrap64 (x - la) = x - la := IntWalk.wrap64_in _ (by omega)
      have hbz : w.heap.size ≤ wr.heap.size := HBB.out.size
      go_wp2_with (refine wp_app_int 22 rfl (.tmp 13) (.tmp 17) rfl Tryd.underlying22 infoInt wr w.heap.size _ (dn i) (x - la) rfl rfl HOO.out (by omega) hbz ?_; intro v6 w6 hO6 hB6 hS6)
      go_roundg (n - (i + 1))
      case measure => have := HL.out; omega
      case rel => exact ⟨i + 1, by go_num, by rw [hnx.out], by have := HL.out; omega, by have := HL.out; omega, by rw [← HSi.out, HAi.out]; exact hO6, HBB.out.trans hB6⟩
    · obtain rfl : i = n := by omega
      rw [HDS.out] at hO
      obtain ⟨A1, c1, rfl, hr1⟩ := hO.rd
      have HB := Lib.hid hB
      have HR1 := Lib.hid hr1
      rw [HDL.out]
      clear hB hO hr1
      generalize (if i = 0 then 0 else ix l (i - 1)) = la at *
      go_wp2
      go_ret
      exact ⟨HB.out, A1, c1, by rw [HDL.out]; rfl, HR1.out⟩
/-! ### the array of widths -/
def widV : Array Value := #[.int .i64 1, .int .i64 2, .int .i64 3, .int .i64 6, .int .i64 11]
set_option maxHeartbeats 1000000 in
theorem widths_any (w : World) : Calls Tryd.prog 25 #[] w fun e w' => e = .returned (.agg widV) ∧ Below w.heap.size w w' := by
  have hBl := Lib.hid (below_alloc w (.cells widV 47))
  unfold widV at *
  go_enter Tryd.func25, Tryd.ntmps25
  go_wp2
  have hbx := Box.new w 47 #[.int .i64 1, .int .i64 2, .int .i64 3, .int .i64 6, .int .i64 11]
  have e0 := hbx.cell 0
  have e1 := hbx.cell 1
  have e2 := hbx.cell 2
  have e3 := hbx.cell 3
  have e4 := hbx.cell 4
  refine bodyPost_ret (v := .agg #[.int .i64 1, .int .i64 2, .int .i64 3, .int .i64 6, .int .i64 11]) (by simp [results, Tryd.results25, go_sem]) rfl ⟨rfl, hBl.out⟩
end Go.Proofs.YtkjiancdhaocaaaDoor

/- The shortest text, as its steps make it: plain; and the memory of encode. -/
namespace Go.Proofs.YtkjiancdhaocaaaDoor
open Go.RowKit
set_option linter.unusedSimpArgs false
set_option linter.unusedVariables false

def upK (k : Nat) : Tx := chg k true
def dnK (k : Nat) : Tx := chg k false
theorem chg_len (k : Nat) (b : Bool) : (chg k b).length ≤ 12 := by
  unfold chg
  rw [List.length_append, wordB_len]
  have := wid_ok k
  rcases this with h | h | h | h | h <;> simp [h]
/-- the first texts of a difference -/
def f0 (best : Nat → Ot) (n : Int) (i : Nat) : Ot := if canD (wid i) n then pre (wordB (wid i) n) (best i) else none
def stepP (best : Nat → Ot) (n : Int) : Nat → Ot := rl upK dnK (f0 best n) 5
def encF : List Int → Nat → Ot
  | [] => fun _ => some []
  | n :: r => stepP (encF r) n
/-- all texts have at most B bits -/
def LeB (B : Nat) (f : Nat → Ot) : Prop := ∀ i, i < 5 → ∀ x, f i = some x → x.length ≤ B
theorem LeB.more {B B' : Nat} {f : Nat → Ot} (h : LeB B f) (hb : B ≤ B') : LeB B' f := fun i hi x hx => Nat.le_trans (h i hi x hx) hb
theorem LeB.upd {B : Nat} {f : Nat → Ot} (h : LeB B f) (i : Nat) {v : Ot} (hv : ∀ x, v = some x → x.length ≤ B) : LeB B (upd f i v) := fun j hj x hx => by
  unfold Proofs.YtkjiancdhaocaaaDoor.upd at hx
  split at hx
  · exact hv x hx
  · exact h j hj x hx
theorem pre_len {p : Tx} {t : Ot} {a B : Nat} (hp : p.length ≤ a) (ht : ∀ x, t = some x → x.length ≤ B) : ∀ x, pre p t = some x → x.length ≤ B + a := fun x hx => by
  cases t with
  | none => cases hx
  | some y =>
    simp only [pre, Option.map_some, Option.some.injEq] at hx
    rw [← hx, List.length_append]
    have := ht y rfl
    omega
theorem better_len {a b : Ot} {B : Nat} (ha : ∀ x, a = some x → x.length ≤ B) (hb : ∀ x, b = some x → x.length ≤ B) : ∀ x, better a b = some x → x.length ≤ B := fun x hx => by
  rcases better_or a b with h | h <;> rw [h] at hx
  · exact ha x hx
  · exact hb x hx
/-! ### five texts in memory -/
def vals5 (v : Nat → Value) : Array Value := #[v 0, v 1, v 2, v 3, v 4]
def updV (v : Nat → Value) (i : Nat) (x : Value) : Nat → Value := fun j => if j = i then x else v j
theorem vals5_get (v : Nat → Value) {i : Nat} (hi : i < 5) : (vals5 v)[i]? = some (v i) := by
  have : i = 0 ∨ i = 1 ∨ i = 2 ∨ i = 3 ∨ i = 4 := by omega
  rcases this with rfl | rfl | rfl | rfl | rfl <;> rfl
theorem vals5_set (v : Nat → Value) {i : Nat} (hi : i < 5) (x : Value) : (vals5 v).set! i x = vals5 (updV v i x) := by
  have : i = 0 ∨ i = 1 ∨ i = 2 ∨ i = 3 ∨ i = 4 := by omega
  rcases this with rfl | rfl | rfl | rfl | rfl <;> rfl
def BoxF (w : World) (g : Nat) (v : Nat → Value) : Prop := Box w g 68 (vals5 v)
theorem BoxF.cell {w : World} {g : Nat} {v : Nat → Value} (h : BoxF w g v) {i : Nat} (hi : i < 5) : w.cell? ⟨g, i, none⟩ = some (v i) := by rw [Box.cell h, vals5_get v hi]
theorem BoxF.set_ {w : World} {g : Nat} {v : Nat → Value} (h : BoxF w g v) {i : Nat} (hi : i < 5) (x : Value) : BoxF (w.setCell ⟨g, i, none⟩ x) g (updV v i x) := by
  have := Box.set_ h i x
  unfold BoxF
  rw [← vals5_set v hi]
  simpa using this
theorem BoxF.keep {w w' : World} {B g : Nat} {v : Nat → Value} (h : BoxF w g v) (hb : Below B w w') (hg : g < B) : BoxF w' g v := Box.keep h hb hg
theorem BoxF.on {w w' : World} {g : Nat} {v : Nat → Value} (h : BoxF w g v) (hb : Below w.heap.size w w') : BoxF w' g v := Box.on h hb
theorem BoxF.lt {w : World} {g : Nat} {v : Nat → Value} (h : BoxF w g v) : g < w.heap.size := Box.lt h
theorem BoxF.frozen {w : World} {g : Nat} {v : Nat → Value} (h : BoxF w g v) (i : Nat) : w.frozen? ⟨g, i, none⟩ = false := Box.frozen h i
structure TxB (w : World) (g : Nat) (f : Nat → Ot) (v : Nat → Value) : Prop where
  box : BoxF w g v
  txt : ∀ i, i < 5 → PtrT w (v i) (f i)
theorem TxB.on {w w' : World} {g : Nat} {f : Nat → Ot} {v : Nat → Value} (h : TxB w g f v) (hb : Below w.heap.size w w') : TxB w' g f v := ⟨h.box.on hb, fun i hi => (h.txt i hi).on hb⟩
theorem PtrT.ne {w : World} {g : Nat} {v : Nat → Value} {f : Nat → Ot} {u : Value} {t : Ot} (h : TxB w g f v) (hu : PtrT w u t) : ∀ b o, u = .pointer (some ⟨b, o, none⟩) → b ≠ g := fun b o e hb => by
  subst hb
  have h0 := h.box.cell (i := 0) (by omega)
  have h1 := h.txt 0 (by omega)
  cases t with
  | none => rw [show u = .pointer none from hu] at e; cases e
  | some x =>
    obtain ⟨b', rfl, hl, hc⟩ := hu
    injection e with e
    injection e with e
    injection e with e1 e2
    subst e1
    rw [hc] at h0
    injection h0 with h0
    cases hf : f 0 with
    | none => rw [hf] at h1; rw [show v 0 = .pointer none from h1] at h0; cases h0
    | some y => rw [hf] at h1; obtain ⟨b2, h2, -⟩ := h1; rw [h2] at h0; cases h0
theorem PtrT.set {w : World} {g : Nat} {u : Value} {t : Ot} (hu : PtrT w u t) (hne : ∀ b o, u = .pointer (some ⟨b, o, none⟩) → b ≠ g) (i : Nat) (x : Value) : PtrT (w.setCell ⟨g, i, none⟩ x) u t := by
  cases t with
  | none => exact hu
  | some y =>
    obtain ⟨b, rfl, hl, hc⟩ := hu
    have hb := hne b 0 rfl
    refine ⟨b, rfl, by simpa [World.setCell] using hl, ?_⟩
    rw [World.cell?_setCell_other _ _ _ _ (by intro e; injection e with e1; exact hb e1.symm)]
    exact hc
theorem TxB.set {w : World} {g : Nat} {f : Nat → Ot} {v : Nat → Value} (h : TxB w g f v) {i : Nat} (hi : i < 5) {u : Value} {t : Ot} (hu : PtrT w u t) : TxB (w.setCell ⟨g, i, none⟩ u) g (upd f i t) (updV v i u) := by
  refine ⟨h.box.set_ hi u, fun j hj => ?_⟩
  unfold Proofs.YtkjiancdhaocaaaDoor.upd updV
  split
  · exact PtrT.set hu (PtrT.ne h hu) i u
  · exact PtrT.set (h.txt j hj) (PtrT.ne h (h.txt j hj)) i u
/-- a store into another array's block leaves five texts -/
theorem TxB.other {w : World} {g g2 : Nat} {f f2 : Nat → Ot} {v v2 : Nat → Value} (h : TxB w g f v) (h2 : TxB w g2 f2 v2) (hg : g ≠ g2) (i : Nat) (x : Value) : TxB (w.setCell ⟨g2, i, none⟩ x) g f v := by
  refine ⟨?_, fun j hj => PtrT.set (h.txt j hj) (PtrT.ne h2 (h.txt j hj)) i x⟩
  exact Box.far h.box (p := ⟨g2, i, none⟩) hg x
end Go.Proofs.YtkjiancdhaocaaaDoor
