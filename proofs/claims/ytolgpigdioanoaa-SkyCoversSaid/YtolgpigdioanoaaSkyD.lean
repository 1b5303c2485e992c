/- Walks over package sky: children; the sanity check. -/
import Derived.Test.YtolgpigdioanoaaSkyC
namespace Go.Proofs.Ytolgpigdioanoaa
set_option linter.unusedSimpArgs false
set_option linter.unusedVariables false
open Go.RowKit

theorem children1_any (s k p : Int) (g1 : Nat) (w : World) (hp : 0 ≤ p ∧ p < 3072) (h1 : w.cell? ⟨g1, 0, none⟩ = some (.int .i64 p)) (l1 : g1 < w.heap.size) :
    Calls Try.prog 69 #[.agg #[.int .i64 k, .int .i64 s], .pointer (some ⟨g1, 0, none⟩)] w fun e w' => ∃ v, e = .returned v ∧ IsInts (kids p) v w' ∧ Below w.heap.size w w' := by
  have hb := below_alloc w (.cells #[.int .i64 k, .int .i64 s] 68)
  rw [← hb.cell l1] at h1
  have hw1 : IntKind.i64.wrap (4 * p) = 4 * p := IntWalk.i64_in _ (by omega)
  have hw2 : IntKind.i64.wrap (4 * p + 1) = 4 * p + 1 := IntWalk.i64_in _ (by omega)
  have hw3 : IntKind.i64.wrap (4 * p + 2) = 4 * p + 2 := IntWalk.i64_in _ (by omega)
  have hw4 : IntKind.i64.wrap (4 * p + 3) = 4 * p + 3 := IntWalk.i64_in _ (by omega)
  go_enter Try.func69, Try.ntmps69
  go_wp2_with fail
  go_ret
  exact ⟨_, rfl, ⟨_, _, rfl, by
    have := RdI.four (w.alloc (.cells #[.int .i64 k, .int .i64 s] 68)) (4 * p) (4 * p + 1) (4 * p + 2) (4 * p + 3) 3
    simpa [kids] using this⟩, hb.trs (below_alloc _ _)⟩

/-- a list and an error -/
def IntsRet (l : List Int) (er : Int) (w : World) (e : Ending) (w' : World) : Prop :=
  Below w.heap.size w w' ∧ ∃ A c, e = .returned (.tuple #[.slice A l.length c, .int .i64 er]) ∧ RdI w' w'.heap.size A l
def kidsL (k p : Int) : List Int := if okP k p then (if k = 4 then [] else kids p) else []
def kidsE (k p : Int) : Int := if okP k p then (if k = 4 then 5 else 0) else 2
theorem kids_no {k p : Int} {w w' : World} (h : okP k p = false) (hb : Below w.heap.size w w') : IntsRet (kidsL k p) (kidsE k p) w (.returned (.tuple #[.slice none 0 0, .int .i64 2])) w' := by
  simp only [kidsL, kidsE, h]
  exact ⟨hb, none, 0, rfl, .inl rfl⟩
theorem kids_four {p : Int} {w w' : World} (h : okP 4 p = true) (hb : Below w.heap.size w w') : IntsRet (kidsL 4 p) (kidsE 4 p) w (.returned (.tuple #[.slice none 0 0, .int .i64 5])) w' := by
  simp only [kidsL, kidsE, h]
  exact ⟨hb, none, 0, rfl, .inl rfl⟩
theorem kids_ok {k p : Int} {w w' : World} {v : Value} (h : okP k p = true) (hk : k ≠ 4) (hv : IsInts (kids p) v w') (hb : Below w.heap.size w w') : IntsRet (kidsL k p) (kidsE k p) w (.returned (.tuple #[v, .int .i64 0])) w' := by
  simp only [kidsL, kidsE, h, hk, if_true, if_false]
  obtain ⟨A, c, rfl, hr⟩ := hv
  exact ⟨hb, A, c, rfl, hr⟩

theorem Children_any (k p : Int) (w : World) :
    Calls Try.prog 19 #[.int .i64 k, .int .i64 p] w (IntsRet (kidsL k p) (kidsE k p) w) := by
  have hB0 := below_alloc w (.cells #[.int .i64 p] 3)
  have hc := cell_one w (.int .i64 p) 3
  have HF := Lib.hid (fun ht => ofInts_any k p 69 #[.pointer (some ⟨w.heap.size, 0, none⟩)] (IsInts (kids p)) (w.alloc (.cells #[.int .i64 p] 3)) (enters_of Try.func69 (by kernel_rfl) rfl) ht)
  have HT : Hid (okP k p = true → TellS 69 #[.pointer (some ⟨w.heap.size, 0, none⟩)] k (IsInts (kids p)) (w.alloc (.cells #[.int .i64 p] 3))) := by
    intro hok W hW
    have hs := hW.size
    simp only [World.size_alloc] at hs
    have := children1_any (sd k) k p w.heap.size W (okP_p hok) (by rw [hW.cell (by simp)]; exact hc) (by omega)
    exact this
  have HF2 := Lib.hid (HF.out HT.out); clear HF HT
  cases hok : okP k p
  · rw [hok] at HF2
    have HE : Hid (∀ w', Below w.heap.size w w' → IntsRet (kidsL k p) (kidsE k p) w (.returned (.tuple #[.slice none 0 0, .int .i64 2])) w') := fun w' h => kids_no hok h
    clear hok
    go_enter Try.func19, Try.ntmps19
    go_wp2_with (go_at_call 68; refine HF2.out.mono ?_; rintro e w1 ⟨rfl, h1⟩)
    go_ret2
    exact HE.out _ (hB0.trs h1)
  · rw [hok] at HF2
    by_cases hk4 : k = 4
    · subst hk4
      have HE : Hid (∀ w', Below w.heap.size w w' → IntsRet (kidsL 4 p) (kidsE 4 p) w (.returned (.tuple #[.slice none 0 0, .int .i64 5])) w') := fun w' h => kids_four hok h
      clear hok
      go_enter Try.func19, Try.ntmps19
      go_wp2_with (go_at_call 68; refine HF2.out.mono ?_; rintro e w1 ⟨⟨v, rfl, hv⟩, h1⟩; clear hv)
      go_ret2
      exact HE.out _ (hB0.trs h1)
    · have HE : Hid (∀ v w', IsInts (kids p) v w' → Below w.heap.size w w' → IntsRet (kidsL k p) (kidsE k p) w (.returned (.tuple #[v, .int .i64 0])) w') := fun v w' hv h => kids_ok hok hk4 hv h
      clear hok
      go_enter Try.func19, Try.ntmps19
      go_wp2_with (go_at_call 68; refine HF2.out.mono ?_; rintro e w1 ⟨⟨v, rfl, hv⟩, h1⟩; have HV := Lib.hid hv; clear hv)
      go_ret2
      exact HE.out _ _ HV.out (hB0.trs h1)

theorem refChildren_any (k p : Int) (w : World) :
    Calls Try.prog 20 #[.int .i64 k, .int .i64 p] w (IntsRet (kidsL k p) (kidsE k p) w) := by
  have HP := Lib.hid (fun W => isPixel_any k p W)
  cases hok : okP k p
  · rw [hok] at HP
    have HE : Hid (∀ w', Below w.heap.size w w' → IntsRet (kidsL k p) (kidsE k p) w (.returned (.tuple #[.slice none 0 0, .int .i64 2])) w') := fun w' h => kids_no hok h
    clear hok
    go_enter Try.func20, Try.ntmps20
    go_wp2_with (go_at_call 66; refine (HP.out _).mono ?_; rintro e w' ⟨rfl, rfl⟩)
    go_ret2
    exact HE.out _ (Below.refl _ _)
  · rw [hok] at HP
    by_cases hk4 : k = 4
    · subst hk4
      have HE : Hid (∀ w', Below w.heap.size w w' → IntsRet (kidsL 4 p) (kidsE 4 p) w (.returned (.tuple #[.slice none 0 0, .int .i64 5])) w') := fun w' h => kids_four hok h
      clear hok
      go_enter Try.func20, Try.ntmps20
      go_wp2_with (go_at_call 66; refine (HP.out _).mono ?_; rintro e w' ⟨rfl, rfl⟩)
      go_ret2
      exact HE.out _ (Below.refl _ _)
    · have HE : Hid (∀ v w', IsInts (kids p) v w' → Below w.heap.size w w' → IntsRet (kidsL k p) (kidsE k p) w (.returned (.tuple #[v, .int .i64 0])) w') := fun v w' hv h => kids_ok hok hk4 hv h
      have hp := okP_p hok
      have hw1 : IntKind.i64.wrap (4 * p) = 4 * p := IntWalk.i64_in _ (by omega)
      have hw2 : IntKind.i64.wrap (4 * p + 1) = 4 * p + 1 := IntWalk.i64_in _ (by omega)
      have hw3 : IntKind.i64.wrap (4 * p + 2) = 4 * p + 2 := IntWalk.i64_in _ (by omega)
      have hw4 : IntKind.i64.wrap (4 * p + 3) = 4 * p + 3 := IntWalk.i64_in _ (by omega)
      clear hok hp
      go_enter Try.func20, Try.ntmps20
      go_wp2_with (go_at_call 66; refine (HP.out _).mono ?_; rintro e w' ⟨rfl, rfl⟩)
      go_ret2
      refine HE.out _ _ ⟨_, _, rfl, ?_⟩ (below_alloc _ _)
      have := RdI.four w (4 * p) (4 * p + 1) (4 * p + 2) (4 * p + 3) 3
      simpa [kids] using this

theorem sameInts_any (A A' : Option Addr) (c c' : Nat) (L : List Int) (w : World) (hr : RdI w w.heap.size A L) (hr' : RdI w w.heap.size A' L) (hl : L.length ≤ 1125899906842624) :
    Calls Try.prog 21 #[.slice A L.length c, .slice A' L.length c'] w fun e w' => e = .returned (.bool true) ∧ Below w.heap.size w w' := by
  have HR := Lib.hid hr; clear hr
  have HR' := Lib.hid hr'; clear hr'
  go_enter Try.func21, Try.ntmps21
  go_wp2
  go_loopg [5] L.length (fun k s wr => ∃ i : Nat, s = .int .i64 i ∧ i ≤ L.length ∧ L.length - i ≤ k ∧ Below w.heap.size w wr)
  case atStart => exact ⟨0, rfl, by omega, by omega, Below.refl _ _⟩
  case round =>
    obtain ⟨i, rfl, hi, hk, hB⟩ := hrel
    by_cases hlt : i < L.length
    · obtain ⟨b, o, rfl, hb, c1⟩ := HR.out.at_ (k := i) hlt
      obtain ⟨b', o', rfl, hb', d1⟩ := HR'.out.at_ (k := i) hlt
      rw [← hB.cell hb] at c1
      rw [← hB.cell hb'] at d1
      go_wp2_with fail
      go_quiet (fail)
      go_wp2_with fail
      go_roundg (L.length - (i + 1))
      case measure => omega
      case rel => exact ⟨i + 1, by go_num, by omega, by omega, hB.drewsN _⟩
    · go_wp2
      go_ret
      exact ⟨rfl, hB⟩
end Go.Proofs.Ytolgpigdioanoaa
