/- A walk over the library's slices.Repeat: one integer, so many times. -/
import Derived.Test.YtkjiancdhaocaaaDoorLibQ
import Derived.Test.YtkjiancdhaocaaaDoorProg
import Derived.Laws.CopyOwn
import Derived.Shelf.Bits.Mul64
namespace Go.Proofs.YtkjiancdhaocaaaDoor
open Go.RowKit
set_option linter.unusedSimpArgs false
set_option linter.unusedVariables false

theorem infoRep : (Tryd.prog.info? 3).map (fun i => (i.zero, i.size, i.bytes)) = some (some (.int .i64 0), 1, 8) := by kernel_rfl
theorem mask32 (N : Int) (h0 : 0 ≤ N) (h1 : N < 4294967296) : bits .and .u64 N 4294967295 = N := by
  have h := Go.Proofs.Mul64.maskN N.toNat (by omega)
  rw [Int.toNat_of_nonneg h0] at h
  rw [h]; omega

theorem Mul64_one (N : Int) (h0 : 0 ≤ N) (h1 : N ≤ 1000000) (w : World) :
    Calls Tryd.prog 60 #[.int .u64 1, .int .u64 N] w fun e w' => e = .returned (.tuple #[.int .u64 0, .int .u64 N]) ∧ w = w' := by
  have m1 := mask32 1 (by omega) (by omega)
  have m0 := mask32 0 (by omega) (by omega)
  have mN := mask32 N h0 (by omega)
  have d0 : N / 4294967296 = 0 := by omega
  have v1 : IntKind.u64.wrap N = N := by rw [IntKind.wrap_u64]; omega
  go_enter Tryd.func60, Tryd.ntmps60
  go_wp2
  go_ret2
  exact ⟨rfl, rfl⟩
theorem Mul_one (N : Int) (h0 : 0 ≤ N) (h1 : N ≤ 1000000) (w : World) :
    Calls Tryd.prog 50 #[.int .u64 1, .int .u64 N] w fun e w' => e = .returned (.tuple #[.int .u64 0, .int .u64 N]) ∧ w = w' := by
  have v1 : IntKind.u64.wrap N = N := by rw [IntKind.wrap_u64]; omega
  have HM := Lib.hid (Mul64_one N h0 h1 w)
  go_enter Tryd.func50, Tryd.ntmps50
  go_wp2_with (go_at_call 60; refine HM.out.mono ?_; rintro e w' ⟨rfl, rfl⟩)
  go_ret2
  exact ⟨rfl, rfl⟩

/-- the first k of n cells hold x -/
def rpl (x : Int) (n k : Nat) : List Int := List.replicate k x ++ List.replicate (n - k) 0
theorem rpl_len (x : Int) {n k : Nat} (h : k ≤ n) : (rpl x n k).length = n := by simp [rpl]; omega
theorem rpl_zero (x : Int) (n : Nat) : rpl x n 0 = List.replicate n 0 := by simp [rpl]
theorem rpl_all (x : Int) (n : Nat) : rpl x n n = List.replicate n x := by simp [rpl]
theorem rpl_splice (x : Int) {n k d : Nat} (h : k + d ≤ n) : Go.splice ((rpl x n k).map (Value.int .i64)) k (List.replicate d (Value.int .i64 x)) = (rpl x n (k + d)).map (Value.int .i64) := by
  unfold Go.splice rpl
  rw [List.map_append, List.map_replicate, List.map_replicate, List.map_append, List.map_replicate, List.map_replicate]
  rw [List.take_left' (by simp)]
  rw [List.length_replicate, List.drop_append, List.drop_of_length_le (by simp), List.nil_append, List.length_replicate, List.drop_replicate]
  rw [← List.append_assoc, List.replicate_append_replicate]
  congr 2
  omega
theorem BoxI.of_hid {w' : World} {g : Nat} {x : Int} {n k d : Nat} (h : k + d ≤ n) (hg : Hid (w'.heap[g]? = some (.cells (Go.splice ((rpl x n k).map (Value.int .i64)) k (List.replicate d (Value.int .i64 x))).toArray 3 (0, 0)))) : BoxI w' g (rpl x n (k + d)) := by
  rw [rpl_splice x h] at hg
  exact hg.out

theorem copy_one {w : World} {b : Nat} {x : Int} (h : w.cell? ⟨b, 0, none⟩ = some (.int .i64 x)) : ∀ (j : Nat) v, (List.replicate 1 (Value.int .i64 x))[j]? = some v → w.cell? ((⟨b, 0, none⟩ : Addr).add j) = some v := fun j v hv => by
  match j with
  | 0 => simp at hv; subst hv; exact h
  | j + 1 => simp at hv

theorem copy_rpl {w : World} {g : Nat} {x : Int} {n k d : Nat} (hk : k ≤ n) (hd : d ≤ k) (h : BoxI w g (rpl x n k)) : ∀ (j : Nat) v, (List.replicate d (Value.int .i64 x))[j]? = some v → w.cell? ((⟨g, 0, none⟩ : Addr).add j) = some v := fun j v hv => by
  have hj : j < d := by have := (List.getElem?_eq_some_iff.1 hv).1; simpa using this
  have hv' : v = .int .i64 x := by rw [List.getElem?_replicate_of_lt hj] at hv; simpa using hv.symm
  have hc := h.cell (k := j) (by rw [rpl_len x hk]; omega)
  have hx : ix (rpl x n k) j = x := by
    unfold ix rpl
    rw [List.getD_eq_getElem?_getD, List.getElem?_append_left (by rw [List.length_replicate]; omega), List.getElem?_replicate_of_lt (by omega)]; rfl
  rw [Addr.add_lit, Nat.zero_add, hc, hx, hv']

set_option maxRecDepth 100000 in
set_option maxHeartbeats 8000000 in
theorem Repeat_any (b c : Nat) (x : Int) (n : Nat) (h1 : 1 ≤ n) (hn : n ≤ 1000) (w : World) (hx : w.cell? ⟨b, 0, none⟩ = some (.int .i64 x)) :
    Calls Tryd.prog 24 #[.slice (some ⟨b, 0, none⟩) 1 c, .int .i64 n] w fun e w' => e = .returned (.slice (some ⟨w.heap.size, 0, none⟩) n n) ∧ BoxI w' w.heap.size (List.replicate n x) ∧ Below w.heap.size w w' := by
  obtain ⟨cs, hmk, hbx⟩ := run_make_int (P := Tryd.prog) Tryd.underlying22 infoRep (n : Int) (by omega) (by omega)
  rw [Int.toNat_natCast] at hbx hmk
  have HB0 := Lib.hid (hbx w)
  have hlt := World.block_lt_of_cell? _ _ hx
  have HX := Lib.hid (show (w.alloc (.cells cs 3)).cell? ⟨b, 0, none⟩ = some (.int .i64 x) from ((below_alloc w _).cell (p := ⟨b, 0, none⟩) hlt).trans hx)
  have hM := fun W => Mul_one (n : Int) (by omega) (by omega) W
  have HM := Lib.hid hM
  have v1 : IntKind.u64.wrap (n : Int) = (n : Int) := by rw [IntKind.wrap_u64]; omega
  clear hbx hx hM
  go_enter Tryd.func24, Tryd.ntmps24
  go_wp2_with (first
    | (go_at_call 50; refine (HM.out _).mono ?_; rintro e w' ⟨rfl, rfl⟩)
    | (refine wpList_copy_splice rfl (.tmp 31) (.tmp 32) 22 22 rfl 3 Tryd.underlying22 (by kernel_rfl) (some ⟨w.heap.size, 0, none⟩) (some ⟨b, 0, none⟩) n n 1 c rfl rfl w.heap.size 0 ((rpl x n 0).map (Value.int .i64)) 3 (by rw [rpl_zero]; exact HB0.out) (List.replicate 1 (Value.int .i64 x)) (by rw [List.length_replicate]; exact (Nat.min_eq_left h1).symm) (fun _ => ⟨rfl, _, rfl, copy_one HX.out⟩) (by rw [List.length_map, rpl_len x (Nat.zero_le _), List.length_replicate]; omega) (by simp [Value.oneCell']) w.heap.size w (below_alloc _ _) (Nat.le_refl _) ?_; intro w2 hg2 hB2))
  have HX2 := Lib.hid (BoxI.of_hid (x := x) (n := n) (k := 0) (d := 1) (by omega) hg2)
  have HB2 := Lib.hid hB2
  clear hg2 hB2
  go_loopg [8] n (fun k t wr => ∃ j : Nat, t = .int .i64 j ∧ 1 ≤ j ∧ j ≤ n ∧ n - j ≤ k ∧ BoxI wr w.heap.size (rpl x n j) ∧ Below w.heap.size w wr)
  case atStart => exact ⟨1, by go_num, by omega, h1, by omega, HX2.out, HB2.out⟩
  case round =>
    obtain ⟨k, rfl, hk1, hkn, hkk, hb, hB⟩ := hrel
    by_cases hlt : k < n
    · obtain ⟨d, hd⟩ : ∃ d : Nat, d = min k (n - k) := ⟨_, rfl⟩
      have hd1 : 1 ≤ d := by omega
      have hd2 : k + d ≤ n := by omega
      have hd3 : d ≤ k := by omega
      have HD := Lib.hid hd
      have HX3 := Lib.hid hb
      have HB3 := Lib.hid hB
      have hi0 : (k : Int) < (n : Int) := by omega
      have hi1 : (0 : Int) ≤ (k : Int) := by omega
      have hi2 : (k : Int) ≤ (n : Int) := by omega
      have hi3 : decide ((k : Int) < (n : Int)) = true := by rw [decide_eq_true_eq]; exact hi0
      have hnk : ¬ n = k := by omega
      have hwr : IntKind.i64.wrap ((k : Int) + (d : Int)) = (k : Int) + (d : Int) := IntWalk.i64_in _ (by omega)
      clear hd hb hB
      go_wp2
      go_region_held3 (fun w' => Below w.heap.size w w') (first | exact hb4 | exact HB3.out.drewsN 1) ((refine step_copy_splice rfl (.tmp 41) (.tmp 44) 22 22 rfl 3 Tryd.underlying22 (by kernel_rfl) (some ⟨w.heap.size, k, none⟩) (some ⟨w.heap.size, 0, none⟩) (n - k) (n - k) k n rfl rfl w.heap.size k ((rpl x n k).map (Value.int .i64)) 3 (HX3.out.on ((Below.refl _ _).drewsN 1)) (List.replicate d (Value.int .i64 x)) (by rw [List.length_replicate]; exact HD.out) (fun _ => ⟨rfl, _, rfl, copy_rpl (by omega) hd3 (HX3.out.on ((Below.refl _ _).drewsN 1))⟩) (by rw [List.length_map, rpl_len x (by omega), List.length_replicate]; omega) (by simp [Value.oneCell']) w.heap.size w (HB3.out.drewsN 1) (Nat.le_refl _) ?_; intro w4 hg4 hb4))
      have HX4 := Lib.hid (BoxI.of_hid (x := x) (n := n) (k := k) (d := d) (by omega) hg4)
      have HB4 := Lib.hid hb4
      clear hg4 hb4
      go_wp2
      go_roundg (n - (k + d))
      case measure => omega
      case rel => exact ⟨k + d, by go_num, by omega, by omega, by omega, HX4.out, HB4.out⟩
    · obtain rfl : k = n := by omega
      have HX3 := Lib.hid hb
      have HB3 := Lib.hid hB
      clear hb hB
      go_wp2
      go_ret
      exact ⟨rfl, by rw [← rpl_all]; exact HX3.out, HB3.out⟩
end Go.Proofs.YtkjiancdhaocaaaDoor
