/- Walks over package sky: regions. -/
import Derived.Test.YtgbpmleipdecgaaSkyCa
import Derived.Test.YtgbpmleipdecgaaSkyA
import Derived.OwnWalk
import Derived.Deep.MidRow
import Derived.Deep.Cut
import Derived.Lib.EndianBits
namespace Go.Proofs.Ytgbpmleipdecgaa
open Go.RowKit
set_option linter.unusedSimpArgs false
set_option linter.unusedVariables false

/-- the words as values -/
def rgA (S : Px) : Array Value := ((wds S).map (Value.int .u64)).toArray
def rgV (S : Px) : Value := .agg (rgA S)
def BoxR (w : World) (g : Nat) (S : Px) : Prop := Box w g 81 (rgA S)
theorem rgA_size (S : Px) : (rgA S).size = 48 := by simp [rgA, wds_len]
theorem rgA_get (S : Px) {i : Nat} (hi : i < 48) : (rgA S)[i]? = some (.int .u64 (wd S i : Int)) := by simp [rgA, wds, hi]
theorem BoxR.cell {w : World} {g : Nat} {S : Px} (h : BoxR w g S) {i : Nat} (hi : i < 48) : w.cell? ⟨g, i, none⟩ = some (.int .u64 (wd S i : Int)) := by rw [Box.cell h, rgA_get S hi]
theorem BoxR.new (w : World) (S : Px) : BoxR (w.alloc (.cells (rgA S) 81)) w.heap.size S := Box.new _ _ _
theorem BoxR.on {w w' : World} {g : Nat} {S : Px} (h : BoxR w g S) (hb : Below w.heap.size w w') : BoxR w' g S := Box.on h hb
theorem BoxR.keep {w w' : World} {B g : Nat} {S : Px} (h : BoxR w g S) (hb : Below B w w') (hg : g < B) : BoxR w' g S := Box.keep h hb hg
theorem BoxR.lt {w : World} {g : Nat} {S : Px} (h : BoxR w g S) : g < w.heap.size := Box.lt h
theorem BoxR.frozen {w : World} {g : Nat} {S : Px} (h : BoxR w g S) (i : Nat) : w.frozen? ⟨g, i, none⟩ = false := Box.frozen h i
theorem BoxR.congr {w : World} {g : Nat} {S T : Px} (h : BoxR w g S) (e : ∀ x, x < 3072 → S x = T x) : BoxR w g T := by
  unfold BoxR rgA at *; rw [← wds_ext e]; exact h
theorem BoxR.set_ {w : World} {g : Nat} {S : Px} (h : BoxR w g S) (p : Nat) (hp : p < 3072) : BoxR (w.setCell ⟨g, p / 64, none⟩ (.int .u64 (wd (fun x => S x || x == p) (p / 64) : Int))) g (fun x => S x || x == p) := by
  have := Box.set_ h (p / 64) (.int .u64 (wd (fun x => S x || x == p) (p / 64) : Int))
  unfold BoxR rgA
  rw [← wds_set S p hp, List.map_set]
  simpa [rgA] using this

/-! ### bits of a word -/
theorem nat_and (a b : Nat) (ha : a < 18446744073709551616) (hb : b < 18446744073709551616) : bits .and .u64 (a : Int) (b : Int) = ((a &&& b : Nat) : Int) := (bits_nat .u64 64 (by decide) wraps_u64 a b ha hb).1
theorem nat_or (a b : Nat) (ha : a < 18446744073709551616) (hb : b < 18446744073709551616) : bits .or .u64 (a : Int) (b : Int) = ((a ||| b : Nat) : Int) := (bits_nat .u64 64 (by decide) wraps_u64 a b ha hb).2
theorem half_word (S : Px) (p : Nat) : bits .and .u64 ((wd S (p / 64) : Int) / 2 ^ (p % 64)) 1 = ((S p).toNat : Int) := by
  rw [show (wd S (p / 64) : Int) / 2 ^ (p % 64) = ((wd S (p / 64) / 2 ^ (p % 64) : Nat) : Int) by simp [Int.natCast_ediv, Int.natCast_pow]]
  have h1 := wd_lt S (p / 64)
  have h2 : wd S (p / 64) / 2 ^ (p % 64) < 18446744073709551616 := Nat.lt_of_le_of_lt (Nat.div_le_self _ _) h1
  have := nat_and (wd S (p / 64) / 2 ^ (p % 64)) 1 h2 (by decide)
  rw [Nat.and_one_is_mod, wd_half] at this
  exact this

set_option maxRecDepth 100000 in
set_option maxHeartbeats 4000000 in
theorem has_any (S : Px) (p : Nat) (w : World) (hp : p < 3072) :
    Calls Try.prog 75 #[rgV S, .int .i64 p] w fun e w' => e = .returned (.bool (S p)) ∧ Below w.heap.size w w' := by
  have hc := (BoxR.new w S).cell (i := p / 64) (by omega)
  have h1 : (p : Int) / 64 = ((p / 64 : Nat) : Int) := by omega
  have h2 : (p : Int) % 64 = ((p % 64 : Nat) : Int) := by omega
  have hq : p / 64 < 48 := by omega
  have hr : p % 64 < 64 := by omega
  have hb := half_word S p
  unfold rgV
  have hs := rgA_size S
  generalize rgA S = V at *
  generalize p / 64 = q at *
  generalize p % 64 = r at *
  generalize wd S q = W at *
  have hBl := below_alloc w (.cells V 81)
  go_enter Try.func75, Try.ntmps75
  go_wp2
  go_ret
  exact ⟨ret_bool (by cases S p <;> rfl), hBl⟩

/-- a cell as a value -/
def celV (c : Int × Int) : Value := .agg #[.int .i64 c.1, .int .i64 c.2]
set_option maxRecDepth 100000 in
set_option maxHeartbeats 4000000 in
theorem span_any (h p : Nat) (w : World) (hh : h ≤ 4) (hp : (p + 1) * 4 ^ h ≤ 3072) :
    Calls Try.prog 65 #[.agg #[.int .i64 (4 - (h : Int)), .int .i64 p]] w fun e w' => e = .returned (.tuple #[.int .i64 ((p * 4 ^ h : Nat) : Int), .int .i64 ((4 ^ h : Nat) : Int)]) ∧ Below w.heap.size w w' := by
  have key : ∀ (o m : Int), (o = 4 ∧ m = 1 ∨ o = 3 ∧ m = 4 ∨ o = 2 ∧ m = 16 ∨ o = 1 ∧ m = 64 ∨ o = 0 ∧ m = 256) → 0 ≤ (p : Int) * m ∧ (p : Int) * m ≤ 3072 →
      Calls Try.prog 65 #[.agg #[.int .i64 o, .int .i64 p]] w fun e w' => e = .returned (.tuple #[.int .i64 (p * m), .int .i64 m]) ∧ Below w.heap.size w w' := by
    intro o m hc ha
    have hBl := Lib.hid (below_alloc w (.cells #[.int .i64 o, .int .i64 p] 37))
    obtain ⟨c0, c1, c2⟩ := cells_new2 w (.int .i64 o) (.int .i64 p) 37
    have HW : Hid (wrap64 ((p : Int) * m) = p * m) := Lib.hid (IntWalk.wrap64_in _ (by omega))
    rcases hc with ⟨rfl, rfl⟩ | ⟨rfl, rfl⟩ | ⟨rfl, rfl⟩ | ⟨rfl, rfl⟩ | ⟨rfl, rfl⟩
    all_goals
      have HA := Lib.hid ha
      clear ha hp
      go_enter Try.func65, Try.ntmps65
      go_wp2
      go_quiet (fail)
      go_wp2
      go_ret2
      refine ⟨?_, hBl.out.drewsN _⟩
      have hw := HW.out
      first | exact ret_ii hw rfl | exact ret_ii (by rw [Int.mul_one] at hw ⊢; exact hw) rfl
  have h4 : (p : Int) * ((4 ^ h : Nat) : Int) = ((p * 4 ^ h : Nat) : Int) := by simp
  rw [← h4]
  have hm : (p * 4 ^ h : Nat) ≤ 3072 := by rw [Nat.add_mul] at hp; omega
  refine key _ _ ?_ (by rw [h4]; omega)
  have : h = 0 ∨ h = 1 ∨ h = 2 ∨ h = 3 ∨ h = 4 := by omega
  rcases this with rfl | rfl | rfl | rfl | rfl <;> decide
theorem infoReg : (Try.prog.info? 81).map (·.size) = some 48 := by kernel_rfl
theorem cell_fits {h p : Nat} (hp : (p + 1) * 4 ^ h ≤ 3072) : p * 4 ^ h + 4 ^ h ≤ 3072 := by rw [Nat.add_mul] at hp; omega

set_option maxRecDepth 100000 in
set_option maxHeartbeats 4000000 in
theorem full_any (S : Px) (h p : Nat) (w : World) (hh : h ≤ 4) (hp : (p + 1) * 4 ^ h ≤ 3072) :
    Calls Try.prog 67 #[rgV S, .agg #[.int .i64 (4 - (h : Int)), .int .i64 p]] w fun e w' => e = .returned (.int .i64 (cntP S (p * 4 ^ h) (4 ^ h) : Nat)) ∧ Below w.heap.size w w' := by
  have HSP := Lib.hid (fun W => span_any h p W hh hp)
  have hfit := cell_fits hp
  have HH := Lib.hid (fun q W hq => has_any S q W hq)
  have h1 := BoxR.new w S
  have h2 := Box.new (w.alloc (.cells (rgA S) 81)) 37 #[.int .i64 (4 - (h : Int)), .int .i64 p]
  have HB := Lib.hid ((below_alloc w (.cells (rgA S) 81)).trs (below_alloc (w.alloc (.cells (rgA S) 81)) (.cells #[.int .i64 (4 - (h : Int)), .int .i64 p] 37)))
  rw [World.size_alloc] at h2
  have HX := Lib.hid (And.intro (h1.on (below_alloc _ (.cells #[.int .i64 (4 - (h : Int)), .int .i64 p] 37))) h2)
  have HSZ := Lib.hid (rgA_size S)
  have HC0 : Hid (cntP S (p * 4 ^ h) 0 = 0) := Lib.hid rfl
  have HCS : Hid (∀ j, cntP S (p * 4 ^ h) (j + 1) = cntP S (p * 4 ^ h) j + (S (p * 4 ^ h + j)).toNat) := Lib.hid (fun j => rfl)
  have HCL := Lib.hid (cntP_le S (p * 4 ^ h))
  have HFT := Lib.hid hfit
  clear h1 h2 hp hh
  unfold rgV at *
  generalize (4 : Int) - (h : Int) = o at *
  generalize p * 4 ^ h = a at *
  generalize 4 ^ h = n at *
  go_enter Try.func67, Try.ntmps67
  go_upto_region 1 with (fail)
  generalize hW0 : (w.alloc (.cells (rgA S) 81)).alloc (.cells #[.int .i64 o, .int .i64 p] 37) = W0 at *
  clear hW0
  have k0 := HX.out.2.cell 0
  have k1 := HX.out.2.cell 1
  simp at k0 k1
  go_wp2_with (go_at_call 65; refine (HSP.out _).mono ?_; rintro e w1 ⟨rfl, h1⟩)
  go_loopg [7, 8] n (fun gk s t wr => ∃ j : Nat, s = .int .i64 (cntP S a j : Nat) ∧ t = .int .i64 (a + j : Nat) ∧ j ≤ n ∧ n - j ≤ gk ∧ Below W0.heap.size W0 wr)
  case atStart => exact ⟨0, by rw [HC0.out]; rfl, rfl, by omega, by omega, h1⟩
  case round =>
    obtain ⟨j, rfl, rfl, hj, hk, hB⟩ := hrel
    have HBB := Lib.hid hB
    have hbx := Lib.hid (BoxR.on HX.out.1 hB)
    clear hB
    by_cases hlt : j < n
    · have hcl := HCL.out j
      have hcs := HCS.out j
      have hhas := HH.out (a + j) wr (by omega)
      have hltI : (a : Int) + (j : Int) < (a : Int) + (n : Int) := by omega
      have e1 : IntKind.i64.wrap ((a : Int) + (n : Int)) = (a : Int) + (n : Int) := IntWalk.i64_in _ (by omega)
      have e2 : wrap64 ((a : Int) + (n : Int)) = (a : Int) + (n : Int) := IntWalk.wrap64_in _ (by omega)
      have HL := Lib.hid (And.intro hlt hk)
      cases hs : S (a + j)
      all_goals
        rw [hs] at hcs hhas
        have HCJ := Lib.hid hcs
        have HHA := Lib.hid hhas
        clear hcs hs hhas
        generalize cntP S a j = cj at *
        go_wp2_with (first
          | (refine wpList_load_row rfl 81 (.tmp 2) rfl w.heap.size rfl 81 _ (0, 0) _ hbx.out Try.underlying81 rfl (by rw [infoReg, HSZ.out]) ?_)
          | (go_at_call 75; refine HHA.out.mono ?_; rintro e w2 ⟨rfl, h2⟩))
        go_roundg (n - (j + 1))
        case measure => have := HL.out; omega
        case rel => exact ⟨j + 1, by rw [HCJ.out]; first | rfl | (simp; done) | go_num, by go_num, by have := HL.out; omega, by have := HL.out; omega, HBB.out.trs h2⟩
    · obtain rfl : j = n := by omega
      have hltI : ¬ (a : Int) + (j : Int) < (a : Int) + (j : Int) := by omega
      have e1 : IntKind.i64.wrap ((a : Int) + (j : Int)) = (a : Int) + (j : Int) := IntWalk.i64_in _ (by omega)
      have e2 : wrap64 ((a : Int) + (j : Int)) = (a : Int) + (j : Int) := IntWalk.wrap64_in _ (by omega)
      go_wp2
      go_ret
      exact ⟨rfl, HB.out.trs HBB.out⟩

set_option maxRecDepth 100000 in
set_option maxHeartbeats 4000000 in
theorem all_any (S : Px) (h p : Nat) (w : World) (hh : h ≤ 4) (hp : (p + 1) * 4 ^ h ≤ 3072) :
    Calls Try.prog 46 #[rgV S, .agg #[.int .i64 (4 - (h : Int)), .int .i64 p]] w fun e w' => e = .returned (.bool (allP S (p * 4 ^ h) (4 ^ h))) ∧ Below w.heap.size w w' := by
  have HSP := Lib.hid (fun W => span_any h p W hh hp)
  have HFU := Lib.hid (fun W => full_any S h p W hh hp)
  have h1 := BoxR.new w S
  have h2 := Box.new (w.alloc (.cells (rgA S) 81)) 37 #[.int .i64 (4 - (h : Int)), .int .i64 p]
  have HB := Lib.hid ((below_alloc w (.cells (rgA S) 81)).trs (below_alloc (w.alloc (.cells (rgA S) 81)) (.cells #[.int .i64 (4 - (h : Int)), .int .i64 p] 37)))
  rw [World.size_alloc] at h2
  have HX := Lib.hid (And.intro (h1.on (below_alloc _ (.cells #[.int .i64 (4 - (h : Int)), .int .i64 p] 37))) h2)
  have HSZ := Lib.hid (rgA_size S)
  have HAL : Hid (allP S (p * 4 ^ h) (4 ^ h) = decide (cntP S (p * 4 ^ h) (4 ^ h) = 4 ^ h)) := Lib.hid rfl
  clear h1 h2 hp hh
  unfold rgV at *
  generalize (4 : Int) - (h : Int) = o at *
  generalize p * 4 ^ h = a at *
  generalize 4 ^ h = n at *
  generalize allP S a n = al at *
  generalize cntP S a n = cn at *
  go_enter Try.func46, Try.ntmps46
  go_upto_region 1 with (fail)
  generalize hW0 : (w.alloc (.cells (rgA S) 81)).alloc (.cells #[.int .i64 o, .int .i64 p] 37) = W0 at *
  clear hW0
  have k0 := HX.out.2.cell 0
  have k1 := HX.out.2.cell 1
  simp at k0 k1
  go_wp2_with (first
    | (go_at_call 65; refine (HSP.out _).mono ?_; rintro e w1 ⟨rfl, h1⟩; have hbx := Lib.hid (HX.out.1.on h1); have k0 := (HX.out.2.on h1).cell 0; have k1 := (HX.out.2.on h1).cell 1; simp at k0 k1)
    | (refine wpList_load_row rfl 81 (.tmp 2) rfl w.heap.size rfl 81 _ (0, 0) _ hbx.out Try.underlying81 rfl (by rw [infoReg, HSZ.out]) ?_)
    | (go_at_call 67; refine (HFU.out _).mono ?_; rintro e w2 ⟨rfl, h2⟩))
  go_ret
  refine ⟨ret_bool ?_, (HB.out.trs h1).trs h2⟩
  rw [HAL.out]
  show ((cn : Int) == (n : Int)) = decide (cn = n)
  by_cases hcn : cn = n
  · rw [hcn]; simp
  · have : ¬ (cn : Int) = (n : Int) := by omega
    simp [hcn, this]
end Go.Proofs.Ytgbpmleipdecgaa
