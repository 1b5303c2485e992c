/- Walks over package sky: the region of cells, and the one of all pixels. -/
import Derived.Test.YtgbpmleipdecgaaSkyCe
namespace Go.Proofs.Ytgbpmleipdecgaa
open Go.RowKit
set_option linter.unusedSimpArgs false
set_option linter.unusedVariables false

theorem rgA_none : (#[.int .u64 0, .int .u64 0, .int .u64 0, .int .u64 0, .int .u64 0, .int .u64 0, .int .u64 0, .int .u64 0, .int .u64 0, .int .u64 0, .int .u64 0, .int .u64 0, .int .u64 0, .int .u64 0, .int .u64 0, .int .u64 0, .int .u64 0, .int .u64 0, .int .u64 0, .int .u64 0, .int .u64 0, .int .u64 0, .int .u64 0, .int .u64 0, .int .u64 0, .int .u64 0, .int .u64 0, .int .u64 0, .int .u64 0, .int .u64 0, .int .u64 0, .int .u64 0, .int .u64 0, .int .u64 0, .int .u64 0, .int .u64 0, .int .u64 0, .int .u64 0, .int .u64 0, .int .u64 0, .int .u64 0, .int .u64 0, .int .u64 0, .int .u64 0, .int .u64 0, .int .u64 0, .int .u64 0, .int .u64 0] : Array Value) = rgA (fun _ => false) := by
  unfold rgA; rw [wds_none]; rfl
theorem rgA_one (S : Px) : (rgA S).all (·.oneCell') = true := by
  unfold rgA; simp [Value.oneCell']
/-- each is a cell -/
def okL (l : List (Int × Int)) : Prop := ∀ k, k < l.length → okP (pa l k) (pb l k) = true
theorem okP_form {k p : Int} (h : okP k p = true) : ∃ hh q : Nat, hh ≤ 4 ∧ k = 4 - (hh : Int) ∧ p = q ∧ (q + 1) * 4 ^ hh ≤ 3072 := by
  unfold okP at h
  obtain ⟨hk, hp⟩ := Bool.and_eq_true_iff.1 h
  rw [btw_iff] at hp
  rcases ord_cases hk with rfl | rfl | rfl | rfl | rfl
  all_goals
    simp only [px, sd] at hp
  · exact ⟨4, p.toNat, by omega, rfl, by omega, by have : p.toNat + 1 ≤ 12 := (by simp at hp; omega); omega⟩
  · exact ⟨3, p.toNat, by omega, rfl, by omega, by have : p.toNat + 1 ≤ 48 := (by simp at hp; omega); omega⟩
  · exact ⟨2, p.toNat, by omega, rfl, by omega, by have : p.toNat + 1 ≤ 192 := (by simp at hp; omega); omega⟩
  · exact ⟨1, p.toNat, by omega, rfl, by omega, by have : p.toNat + 1 ≤ 768 := (by simp at hp; omega); omega⟩
  · exact ⟨0, p.toNat, by omega, rfl, by omega, by have : p.toNat + 1 ≤ 3072 := (by simp at hp; omega); omega⟩
theorem put_cell (S : Px) (g : Nat) (k p : Int) (w : World) (hc : okP k p = true) (hb : BoxR w g S) :
    Calls Try.prog 42 #[.pointer (some ⟨g, 0, none⟩), .agg #[.int .i64 k, .int .i64 p]] w fun e w' => e = .returned (.tuple #[]) ∧ Below g w w' ∧ BoxR w' g (fun x => S x || inC (k, p) x) := by
  obtain ⟨h, q, h1, rfl, rfl, h2⟩ := okP_form hc
  exact put_any S g h q w h1 h2 hb
theorem uniP_nil : uniP [] = fun _ => false := rfl
theorem uniP_succ (l : List (Int × Int)) {i : Nat} (hi : i < l.length) : (fun x => uniP (l.take i) x || inC (pa l i, pb l i) x) = uniP (l.take (i + 1)) := by
  funext x
  unfold uniP
  have : l.take (i + 1) = l.take i ++ [(pa l i, pb l i)] := by
    rw [List.take_succ_eq_append_getElem hi]
    congr 1
    simp [pa, pb, hi]
  rw [this, List.any_append]
  simp
set_option maxRecDepth 100000 in
set_option maxHeartbeats 4000000 in
theorem union_any (A : Option Addr) (c : Nat) (l : List (Int × Int)) (w : World) (hr : RdP w w.heap.size A l) (hl : l.length ≤ 1000000) (hok : okL l) :
    Calls Try.prog 66 #[.slice A l.length c] w fun e w' => e = .returned (rgV (uniP l)) ∧ Below w.heap.size w w' := by
  have HR := Lib.hid hr
  have HO := Lib.hid hok
  have HUS := Lib.hid (fun i (hi : i < l.length) => uniP_succ l hi)
  have HTL : Hid (l.take l.length = l) := Lib.hid (List.take_length)
  have x1 := BoxR.new w (fun _ => false)
  have x2 := BoxR.new (w.alloc (.cells (rgA fun _ => false) 81)) (fun _ => false)
  rw [World.size_alloc] at x2
  have HX := Lib.hid (And.intro (x1.on (below_alloc _ (.cells (rgA fun _ => false) 81))) (And.intro x2 ((below_alloc w (.cells (rgA fun _ => false) 81)).trs (below_alloc _ (.cells (rgA fun _ => false) 81)))))
  have HSZ := Lib.hid rgA_size
  have HO1 := Lib.hid rgA_one
  clear hr hok x1 x2
  generalize hn : l.length = n at *
  have HN := Lib.hid hn
  clear hn
  generalize hgw : w.heap.size = gw at *
  have HGW := Lib.hid hgw
  clear hgw
  go_enter Try.func66, Try.ntmps66
  go_upto_region 2 with (fail)
  rw [rgA_none]
  generalize hW0 : (w.alloc (.cells (rgA fun _ => false) 81)).alloc (.cells (rgA fun _ => false) 81) = W0 at *
  clear hW0
  rw [HGW.out]
  go_wp2
  go_loopg [8] n (fun gk t wr => ∃ i : Nat, t = .int .i64 i ∧ i ≤ n ∧ n - i ≤ gk ∧ BoxR wr (gw + 1) (uniP (l.take i)) ∧ BoxR wr gw (fun _ => false) ∧ Below gw w wr)
  case atStart => exact ⟨0, rfl, by omega, by omega, HX.out.2.1, HX.out.1, HX.out.2.2⟩
  case round =>
    obtain ⟨i, rfl, hi, hk, h1, h2, hB⟩ := hrel
    by_cases hlt : i < n
    · obtain ⟨b, o, rfl, hb, c0, c1⟩ := HR.out.at_ (k := i) (by rw [HN.out]; exact hlt)
      rw [← hB.cell hb] at c0 c1
      have hok := HO.out i (by rw [HN.out]; exact hlt)
      have HUI := Lib.hid (HUS.out i hlt)
      have HS1 := Lib.hid (h1.on (below_alloc wr (.cells #[.int .i64 (pa l i), .int .i64 (pb l i)] 37)))
      have HS2 := Lib.hid (h2.on (below_alloc wr (.cells #[.int .i64 (pa l i), .int .i64 (pb l i)] 37)))
      have hsz := hB.size
      have hszw := h1.lt
      have HS3 := Lib.hid (hB.trans ((below_alloc wr (.cells #[.int .i64 (pa l i), .int .i64 (pb l i)] 37)).mono (by omega)))
      have HOK := Lib.hid hok
      have HL := Lib.hid (And.intro hlt hk)
      clear hB h1 h2 hok
      generalize pa l i = x at *
      generalize pb l i = y at *
      go_wp2_with (go_at_call 42; refine (put_cell _ (gw + 1) x y _ HOK.out HS1.out).mono ?_; rintro e w2 ⟨rfl, h4, h5⟩)
      go_roundg (n - (i + 1))
      case measure => have := HL.out; omega
      case rel => exact ⟨i + 1, by go_num, by have := HL.out; omega, by have := HL.out; omega, by rw [← HUI.out]; exact h5, HS2.out.keep h4 (by omega), HS3.out.trans (h4.mono (by omega))⟩
    · obtain rfl : i = n := by omega
      rw [HTL.out] at h1
      have H1 := Lib.hid h1
      have H2 := Lib.hid h2
      have H3 := Lib.hid hB
      have HU := Lib.hid Try.underlying81
      clear h1 h2 hB
      unfold rgV at *
      go_wp2_with (first
        | (refine wpList_load_row rfl 81 (.tmp 3) rfl (gw + 1) rfl 81 _ (0, 0) _ H1.out HU.out rfl (by rw [infoReg, HSZ.out]) ?_)
        | (refine wpList_store_mid rfl 81 (.tmp 2) (.tmp 15) rfl gw 0 (rgA (uniP l)) rfl rfl (by rw [HSZ.out]; exact box_there2 H2.out (HSZ.out _)) (by rw [infoReg, HSZ.out]) (HO1.out _) ?_))
      have hbx := box_setAll2 H2.out (vs := rgA (uniP l)) (by rw [HSZ.out, HSZ.out])
      have hbl := below_setCells (g := gw) (Nat.le_refl gw) (rgA (uniP l)).toList 0 _ H3.out
      generalize World.setCells wr gw 0 (rgA (uniP l)).toList = W at *
      have hload := run_loadVar_row (P := Try.prog) W gw 81 81 _ (0, 0) _ hbx HU.out rfl (by rw [infoReg, HSZ.out])
      exact bodyPost_ret (results_cell Try.results66 (p := ⟨gw, 0, none⟩) rfl hload) rfl ⟨rfl, hbl⟩
end Go.Proofs.Ytgbpmleipdecgaa
