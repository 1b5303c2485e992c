/- Walks over package wave: Encode, Length; the law's Awake and Many. -/
import Derived.Test.YtkjiancdhaocaaaDoorWvG
namespace Go.Proofs.YtkjiancdhaocaaaDoor
open Go.RowKit Go.Shelf
set_option linter.unusedSimpArgs false
set_option linter.unusedVariables false
attribute [local go_sem] Oper.semAt_some

/-- the text of a reading -/
def encT (s : List Int) : Tx := if vldW s then (encF (difs s) 2).getD [] else []
def encE (s : List Int) : Int := if vldW s then 0 else 30
theorem encT_len (s : List Int) : (encT s).length ≤ 40000 := by
  unfold encT
  split
  · rename_i hv
    obtain ⟨h1, h2, -⟩ := vldW_iff.1 hv
    have hE : ∀ l : List Int, LeB (1000 * l.length) (encF l) := fun l => by
      induction l with
      | nil => intro i hi x hx; simp [encF] at hx; subst hx; simp
      | cons d r ih => exact (leB_step ih d).more (by simp; omega)
    cases hx : encF (difs s) 2 with
    | none => simp
    | some x =>
      have := hE _ 2 (by omega) x hx
      rw [difs_len] at this
      simp only [Option.getD_some]
      omega
  · simp
set_option maxHeartbeats 2000000 in
theorem Encode_any (A : Option Addr) (c : Nat) (s : List Int) (w : World) (hr : RdI w w.heap.size A s) (hl : s.length ≤ 1000000) :
    Calls Tryd.prog 8 #[.slice A s.length c] w fun e w' => e = .returned (.tuple #[.string ⟨(encT s).toArray⟩, .int .i64 (encE s)]) ∧ Below w.heap.size w w' := by
  have HV := Lib.hid (Valid_any A c s w hr hl)
  unfold encT encE
  cases hv : vldW s
  · rw [hv] at HV
    clear hr
    go_enter Tryd.func8, Tryd.ntmps8
    go_wp2_with (go_at_call 20; refine HV.out.mono ?_; rintro e w1 ⟨rfl, h1⟩)
    go_ret2
    exact ⟨by simp, h1⟩
  · have HE := Lib.hid (fun w1 (h1 : Below w.heap.size w w1) => encode_any A c s w1 (hr.on h1) hv)
    rw [hv] at HV
    clear hr
    go_enter Tryd.func8, Tryd.ntmps8
    go_wp2_with (first
      | (go_at_call 20; refine HV.out.mono ?_; rintro e w1 ⟨rfl, h1⟩)
      | (go_at_call 21; refine (HE.out _ h1).mono ?_; rintro e w2 ⟨rfl, h2⟩))
    go_ret2
    exact ⟨by simp, h1.trs h2⟩
set_option maxHeartbeats 2000000 in
theorem Length_any (A : Option Addr) (c : Nat) (s : List Int) (w : World) (hr : RdI w w.heap.size A s) (hl : s.length ≤ 1000000) :
    Calls Tryd.prog 19 #[.slice A s.length c] w fun e w' => e = .returned (.tuple #[.int .i64 ((encT s).length : Nat), .int .i64 (encE s)]) ∧ Below w.heap.size w w' := by
  have HE := Lib.hid (Encode_any A c s w hr hl)
  have hlt := encT_len s
  clear hr
  generalize encT s = t at *
  generalize encE s = d at *
  go_enter Tryd.func19, Tryd.ntmps19
  go_wp2_with (go_at_call 8; refine HE.out.mono ?_; rintro e w1 ⟨rfl, h1⟩)
  go_ret2
  exact ⟨by simp, h1⟩
theorem awake_len : (encT [2, 2, 2, 2]).length = 12 := by decide +kernel
theorem awake_ok : encE [2, 2, 2, 2] = 0 := by decide +kernel
set_option maxHeartbeats 2000000 in
theorem Awake_any (w : World) : Calls Tryd.prog 7 #[] w fun e w' => e = .returned (.bool true) ∧ Below w.heap.size w w' := by
  have hb := Box.new w 3 #[.int .i64 2, .int .i64 2, .int .i64 2, .int .i64 2]
  have hal := below_alloc w (.cells #[.int .i64 2, .int .i64 2, .int .i64 2, .int .i64 2] 3)
  have HL := Lib.hid (Length_any (some ⟨w.heap.size, 0, none⟩) 4 [2, 2, 2, 2] (w.alloc (.cells #[.int .i64 2, .int .i64 2, .int .i64 2, .int .i64 2] 3)) (.inr ⟨w.heap.size, 0, rfl, by simp, fun k hk => by
    rw [Box.cell hb]
    have : k = 0 ∨ k = 1 ∨ k = 2 ∨ k = 3 := by simp at hk; omega
    rcases this with rfl | rfl | rfl | rfl <;> rfl⟩) (by simp))
  rw [awake_len, awake_ok] at HL
  have HAL := Lib.hid hal
  clear hb hal
  go_enter Tryd.func7, Tryd.ntmps7
  go_wp2_with (go_at_call 19; refine HL.out.mono ?_; rintro e w1 ⟨rfl, h1⟩)
  go_ret
  exact ⟨by simp, HAL.out.trs h1⟩
theorem Many_any (A : Option Addr) (c n : Nat) (w : World) : Calls Tryd.prog 4 #[.slice A n c] w fun e w' => e = .returned (.bool (decide (200 < (n : Int)))) ∧ w' = w := by
  go_enter Tryd.func4, Tryd.ntmps4
  go_wp2
  go_ret
  exact ⟨by simp, rfl⟩
end Go.Proofs.YtkjiancdhaocaaaDoor
