/- SkyOvers: for every input the call returns true, and each argument reads afterwards as it read before. No condition. -/
import Derived.Test.YtolgpigdioanoaaRows
import Derived.Test.YtolgpigdioanoaaFrameS
import Derived.Test.YtolgpigdioanoaaSkyOversW
namespace Go.Proofs.Ytolgpigdioanoaa.skyOvers
open Go.ChangeShapes Go.WideShapes Go.ChangeAt Go.RowKit
open Go.ChangeMaps (open_string shut_string)
set_option linter.unusedVariables false

theorem own : ownKnob Try.prog.godebug = none := by kernel_rfl
theorem laidOut : laidOutB Try.prog = true := by kernel_rfl

set_option maxRecDepth 100000 in
theorem lifted (os : Os) (started : os.Started) (H : Type) (enc : TypeId × Value → H) :
    ReturnsInHanded {} Try.checked os 11 .any (Rows.skyOversSpec.pre6 enc Try.prog Try.f11 Rows.skyOversRow.domain false) (Rows.skyOversSpec.post enc Try.prog Try.f11 false true false false) := by
  refine returnsInHanded_of_change (C := Try.checked) own started (by kernel_rfl) Try.func11
    (ChangeSpec.witness6 (enc := enc) (C := Try.checked) false ⟨#[], #[.agg #[.slice none 0 0, .slice none 0 0, .slice none 0 0]], []⟩ 8 (by kernel_rfl) (by kernel_rfl) (by kernel_rfl) (by kernel_rfl)) ?_
  intro W base args ds gs before hval0 hW hcnd _
  have hval : ∀ (j : Nat) t v, Try.f11.params[j]? = some t → args[j]? = some v → Value.okWide Try.prog W .any base t v := hval0
  have hW' := hW
  obtain ⟨p, q, hA0, hV, rfl, hfz, hnd⟩ := hW
  have hA : DataW.TrodAll enc Try.prog W 0 (fun _ => true) true Try.f11.params.toList args.toList ds p := hA0
  rw [Try.params11] at hA hval
  obtain ⟨v0, vs0, d0, ds0, p0, q0, hargs, rfl, rfl, h0, r0⟩ := trodAll_cons hA
  obtain ⟨rfl, rfl, rfl⟩ := trodAll_nil r0
  obtain rfl : args = #[v0] := by cases args; simp_all
  obtain ⟨rfl, rfl⟩ := trodVars_none hV
  have k0 := h0
  have lt0 : ∀ x ∈ p0, x.block < W.heap.size := by obtain ⟨m, hm⟩ := k0; exact DataW.trod_lt m _ _ _ hm
  obtain ⟨A0a, c0a, L0a, A0b, c0b, L0b, A0c, c0c, L0c, rfl, w0⟩ : ∃ (A0 : Option Addr) (c0 : Nat) (L0 : List (Int × Int)) (A1 : Option Addr) (c1 : Nat) (L1 : List (Int × Int)) (A2 : Option Addr) (c2 : Nat) (L2 : List (Int × Int)), v0 = .agg #[.slice A0 L0.length c0, .slice A1 L1.length c1, .slice A2 L2.length c2] ∧ (L0.length ≤ maxLen ∧ RdP W W.heap.size A0 L0) ∧ (L1.length ≤ maxLen ∧ RdP W W.heap.size A1 L1) ∧ L2.length ≤ maxLen ∧ RdP W W.heap.size A2 L2 := by
    obtain ⟨fuel, hf⟩ := h0
    exact open_arr3_pairs Try.underlying51 Try.underlying44 Try.underlying60 (by kernel_rfl) (by kernel_rfl) (by kernel_rfl) ⟨rfl, by kernel_rfl, Try.underlying3⟩ ⟨rfl, by kernel_rfl, Try.underlying3⟩ (hval 0 51 v0 rfl rfl) hf
  clear hA0 hval0
  refine (SkyOvers_walk W A0a c0a L0a A0b c0b L0b A0c c0c L0c w0).mono fun e W' ⟨he, bel⟩ => ?_
  subst he
  exact ⟨_, rfl, _, _, _, [], _, [], hW', trodAll_mk1 (shut_bool Try.underlying4 _), (trodAll_cons_mk (Below.trod laidOut (by kernel_rfl) (of_decide_eq_true (by kernel_rfl)) k0 bel lt0) trodAll_mk0), rfl, bel.frame _, fun h => by cases h⟩

theorem proved : Rows.SkyOversSaid :=
  OpenClaim.holds_of_wide 11 Try.f11 rfl rfl rfl rfl rfl rfl rfl ⟨rfl, rfl, rfl, rfl, rfl⟩ rfl rfl rfl rfl rfl (by kernel_rfl) Try.func11 (by kernel_rfl)
    (of_decide_eq_true (by kernel_rfl)) (by unfold Func.isWrapper; first | (rw [if_pos (by decide +kernel)]; kernel_rfl) | (rw [if_neg (by decide +kernel)]; exact ⟨rfl, rfl⟩))
    (fun os started H enc _ => lifted os started H enc)
#print axioms proved
end Go.Proofs.Ytolgpigdioanoaa.skyOvers
