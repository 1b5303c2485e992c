/- Walks over package ice and its reference: the least strength for so many lamps. -/
import Derived.Test.YtbocedbonaeohaaIceV
import Derived.Test.YtbocedbonaeohaaLib3
namespace Go.Proofs.Ytbocedbonaeohaa
set_option linter.unusedVariables false
open Go.RowKit

/-- the least strength for so many lamps -/
def lstI (l : List Int) (k : Nat) : Int := idxF (fun i => lampN l (i : Int) k) 100000
theorem lst_is {l : List Int} (hp : ∀ d ∈ l, 0 ≤ d ∧ d ≤ 100) (hl : l.length ≤ 600) {k : Nat} (hk : 1 ≤ k) : ∃ r : Nat, lstI l k = r ∧ r ≤ 60000 ∧ (∀ i : Nat, i < r → lampN l i k = false) ∧ ∀ i : Nat, r ≤ i → lampN l i k = true := by
  have hnn : ∀ d ∈ l, 0 ≤ d := fun d hd => (hp d hd).1
  have hb := (sum_bounds l hp).2
  have hc : cm l l.length ≤ 60000 := by unfold cm; rw [List.take_length]; omega
  have hall := lampN_all hnn (s := 60000) hc
  unfold lstI
  rcases idxF_cases (fun i => lampN l (i : Int) k) 100000 with ⟨r, h1, h2, h3, h4⟩ | ⟨h3, h4⟩
  · refine ⟨r, h4, ?_, h3, fun i hi => lampN_mono hnn (by omega) (s := r) (s' := i) (by omega) (Nat.le_refl _) h2⟩
    apply Classical.byContradiction; intro hc2
    have := h3 60000 (by omega)
    have h5 := lampN_mono hnn (s := 60000) (s' := ((60000 : Nat) : Int)) (by omega) (by omega) hk hall
    rw [h5] at this; cases this
  · have := h3 60000 (by omega)
    have h5 := lampN_mono hnn (s := 60000) (s' := ((60000 : Nat) : Int)) (by omega) (by omega) hk hall
    rw [h5] at this; cases this
def LeastE (L : List (Int × Int)) (k : Int) : Int := gate (vld L) (btw 1 k 600)

theorem Least1_any (A : Option Addr) (n c b0 : Nat) (k : Int) (w : World) (hc : w.cell? ⟨b0, 0, none⟩ = some (.int .i64 k)) :
    Calls Try.prog 37 #[.slice A n c, .pointer (some ⟨b0, 0, none⟩)] w fun e w' => e = .returned (.bool (btw 1 k 600)) ∧ Below w.heap.size w w' := by
  go_enter Try.func37, Try.ntmps37
  go_wp2_with (go_at_call 38; refine (between_any _ _ _ _).mono ?_; rintro e w' ⟨rfl, rfl⟩)
  go_ret
  exact ⟨rfl, Below.refl _ _⟩

/-- lamps whose list is seen -/
theorem lamps_seen (A : Option Addr) (c : Nat) (l : List Int) (s : Int) (w : World) (hr : RdI w w.heap.size A (cum l)) (hm : ∀ d ∈ l, 0 ≤ d ∧ d ≤ 100) (hl : l.length ≤ 600) (hs : 0 ≤ s) (hs2 : s ≤ 1000000) :
    Calls Try.prog 41 #[.slice A (cum l).length c, .int .i64 s] w fun e w' => Below w.heap.size w w' ∧ ∃ (A2 : Option Addr) (n c2 : Nat) (ok : Bool), e = .returned (.tuple #[.slice A2 n c2, .bool ok]) ∧ n ≤ 600 ∧ Hid (∀ k : Nat, lampN l s k = (ok && decide (n ≤ k))) :=
  (lamps_any A c l s w hr hm hl hs hs2).mono (fun e w' ⟨hb, hh⟩ => ⟨hb, by
    rcases hh with ⟨h1, h2⟩ | ⟨K, v, h1, h2, h3⟩
    · exact ⟨none, 0, 0, false, h2, by omega, Lib.hid (fun k => by unfold lampN; rw [h1]; rfl)⟩
    · obtain ⟨A2, c2, rfl, h4⟩ := h3.rd
      have := lampsO_len h1
      exact ⟨A2, _, c2, true, h2, by rw [lmp_len]; omega, Lib.hid (fun k => by unfold lampN; rw [h1, lmp_len]; rfl)⟩⟩)

theorem Least2_any (A : Option Addr) (c q b0 b1 : Nat) (l : List Int) (s k : Nat) (w : World) (hq : (cum l).length = q) (hr : RdI w w.heap.size A (cum l)) (hm : ∀ d ∈ l, 0 ≤ d ∧ d ≤ 100) (hl : l.length ≤ 600) (hs2 : s ≤ 1000000) (hk : k ≤ 600)
    (hc0 : w.cell? ⟨b0, 0, none⟩ = some (.slice A q c)) (hc1 : w.cell? ⟨b1, 0, none⟩ = some (.int .i64 k)) (h1 : b1 < w.heap.size) :
    Calls Try.prog 40 #[.int .i64 s, .pointer (some ⟨b0, 0, none⟩), .pointer (some ⟨b1, 0, none⟩)] w fun e w' => e = .returned (.bool (lampN l s k)) ∧ Below w.heap.size w w' := by
  have HL := Lib.hid (lamps_seen A c l s w hr hm hl (by omega) (by omega))
  rw [hq] at HL
  clear hr hm hq
  generalize lampN l (s : Int) = F at *
  go_enter Try.func40, Try.ntmps40
  go_wp2_with (go_at_call 41; refine HL.out.mono ?_; rintro e w1 ⟨hB, A2, n, c2, ok, rfl, hn, hF⟩; have c3 := (hB.cell (p := ⟨b1, 0, none⟩) h1).trans hc1; have hF2 := hF; clear hF; cases ok)
  all_goals
    go_ret
    exact ⟨ret_bool (by rw [hF2.out]; first | rfl | simp), hB⟩

def LeastV (L : List (Int × Int)) (k : Int) : Value := .tuple #[.int .i64 (val (LeastE L k) (lstI (mets L) k.toNat)), .int .i64 (LeastE L k)]
theorem Least_any (A : Option Addr) (c : Nat) (L : List (Int × Int)) (k : Int) (w : World) (hr : RdP w w.heap.size A L) (hl : L.length ≤ 1125899906842624) :
    Calls Try.prog 14 #[.slice A L.length c, .int .i64 k] w fun e w' => e = .returned (LeastV L k) ∧ Below w.heap.size w w' := by
  have hB0 := below_alloc w (.cells #[.int .i64 k] 3)
  have hcell := cell_one w (.int .i64 k) 3
  have HO := Lib.hid (opened_any 37 #[.pointer (some ⟨w.heap.size, 0, none⟩)] A c L (btw 1 k 600) (w.alloc (.cells #[.int .i64 k] 3)) (hr.on hB0) hl (enters_of Try.func37 (by kernel_rfl) rfl) (by
    intro hv W A' c' hB hR
    exact Least1_any A' _ c' w.heap.size k W (by rw [hB.cell (p := ⟨w.heap.size, 0, none⟩) (by simp)]; exact hcell)))
  have HG : Hid (gate (vld L) (btw 1 k 600) ≠ 0 → LeastV L k = .tuple #[.int .i64 0, .int .i64 (gate (vld L) (btw 1 k 600))]) := Lib.hid (fun h => by unfold LeastV LeastE; rw [val_no h])
  have HD : Hid (vld L = true → btw 1 k 600 = true → ∃ r : Nat, LeastV L k = .tuple #[.int .i64 r, .int .i64 0] ∧ (∀ (W : World) A' c', Below (w.alloc (.cells #[.int .i64 k] 3)).heap.size (w.alloc (.cells #[.int .i64 k] 3)) W → RdI W W.heap.size A' (cum (mets L)) →
      Calls Try.prog 39 #[.int .i64 100000, .func (.func 40) #[] #[.pointer (some ⟨W.heap.size, 0, none⟩), .pointer (some ⟨w.heap.size, 0, none⟩)]] (W.alloc (.cells #[.slice A' (cum (mets L)).length c'] 47)) fun e w' => e = .returned (.int .i64 r) ∧ Below (W.alloc (.cells #[.slice A' (cum (mets L)).length c'] 47)).heap.size (W.alloc (.cells #[.slice A' (cum (mets L)).length c'] 47)) w')) := Lib.hid (fun hv hs => by
    have hok := okL_of_vld hv
    have h600 := mets_len600 hok
    have hg : LeastE L k = 0 := gate_ok hv hs
    have hk := btw_iff.1 hs
    obtain ⟨kn, rfl⟩ := Int.eq_ofNat_of_zero_le (show 0 ≤ k by omega)
    obtain ⟨r, h1, h2, h3, h4⟩ := lst_is (mets_mem hok) h600 (k := kn) (by omega)
    refine ⟨r, by unfold LeastV; rw [val_ok hg, hg, Int.toNat_natCast, h1], fun W A' c' hW hR => ?_⟩
    have hbx := hR.on (below_alloc W (.cells #[.slice A' (cum (mets L)).length c'] 47))
    have hs0 := hW.size
    simp only [World.size_alloc] at hs0
    refine Search_any 40 _ (fun i => lampN (mets L) (i : Int) kn) 100000 r _ (enters_of Try.func40 (by kernel_rfl) rfl) (by omega) (fun W' i hW' hi => ?_) (by omega) h3 (fun i hi _ => h4 i hi)
    have hs1 := hW'.size
    simp only [World.size_alloc] at hs1
    refine Least2_any A' c' _ W.heap.size w.heap.size (mets L) i kn W' rfl (hbx.on hW') (mets_mem hok) h600 (by omega) (by omega) ?_ ?_ (by omega)
    · rw [hW'.cell (p := ⟨W.heap.size, 0, none⟩) (by simp)]; exact cell_one _ _ _
    · rw [hW'.cell (p := ⟨w.heap.size, 0, none⟩) (by simp; omega), (below_alloc W _).cell (p := ⟨w.heap.size, 0, none⟩) (by simp only; omega), hW.cell (p := ⟨w.heap.size, 0, none⟩) (by simp)]; exact hcell)
  clear hr hcell
  generalize LeastV L k = V at *
  generalize L.length = nL at *
  go_enter Try.func14, Try.ntmps14
  go_wp2_with (go_at_call 23; refine HO.out.mono ?_; rintro e w1 ⟨hB, h⟩; rcases h with ⟨hg, rfl⟩ | ⟨hv, hrt, A', c', rfl, hR⟩)
  · go_ret2
    exact ⟨(by rw [HG.out hg]; first | done | rfl), (hB0.trs hB).trs (below_alloc _ _)⟩
  · obtain ⟨r, hV, hS⟩ := HD.out hv hrt
    have HS := Lib.hid (hS w1 A' c' hB hR)
    have HV := Lib.hid hV
    clear hV hS hv hrt hR HD HG HO
    generalize (cum (mets L)).length = q at *
    go_wp2_with (go_at_call 39; refine HS.out.mono ?_; rintro e w2 ⟨rfl, h2⟩)
    go_ret2
    exact ⟨(by rw [HV.out]; first | done | rfl), ((hB0.trs hB).trs (below_alloc _ _)).trs h2⟩

end Go.Proofs.Ytbocedbonaeohaa
