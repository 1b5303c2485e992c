/- The walk of the law IceNarrows: what is left out, and where Between fails. -/
import Derived.Test.YtnodeooammplfaaIceNa
import Derived.Test.YtnodeooammplfaaIceBetweensW
import Derived.Test.YtnodeooammplfaaIceAddsW
import Derived.Test.YtnodeooammplfaaLib3
import Derived.OwnWalk
import Derived.Deep.Cut
namespace Go.Proofs.Ytnodeooammplfaa
open Go.RowKit Go.OpenShut
set_option linter.unusedSimpArgs false
set_option linter.unusedVariables false

/-- what the first part of the law has laid: the array, and the contracts at hand -/
def NarT (w : World) (A : Option Addr) (c : Nat) (nl : Nat) (A2 : Option Addr) (c2 n : Nat) (x0 x1 : Int) : Prop :=
  Calls Try.prog 10 #[.slice A nl c, .slice A2 n c2, .agg #[.int .u16 x0, .int .u16 x1]] w fun e w' => e = .returned (.bool true) ∧ Below w.heap.size w w'

set_option maxRecDepth 100000 in
set_option maxHeartbeats 4000000 in
theorem IceNarrows_early (w : World) (A : Option Addr) (c : Nat) (L : List (Int × Int)) (hr : RdP w w.heap.size A L) (hm : L.length ≤ maxLen) (A2 : Option Addr) (c2 : Nat) (Es : List (List Int)) (hr2 : RdL w w.heap.size A2 Es ∧ ∀ l ∈ Es, l.length ≤ maxLen) (hm2 : Es.length ≤ maxLen) (x0 x1 : Int)
    (h : 60 < L.length ∨ vld L = false ∨ wideB Es = true) : NarT w A c L.length A2 c2 Es.length x0 x1 := by
  have hB0 := below_alloc w (.cells #[.int .u16 x0, .int .u16 x1] 43)
  have HR := Lib.hid (hr.on hB0)
  have HR2 := Lib.hid (hr2.1.on hB0)
  have hes : Es.length ≤ 9223372036854775807 := by have := hm2; unfold maxLen at this; omega
  have hls : ∀ k, k < Es.length → (lx Es k).length ≤ 9223372036854775807 := fun k hk => by
    have := hr2.2 (lx Es k) (by unfold lx; rw [List.getD_eq_getElem?_getD, List.getElem?_eq_getElem hk]; exact List.getElem_mem hk)
    unfold maxLen at this
    omega
  have HWI := Lib.hid (Wide_any A2 c2 Es (w.alloc (.cells #[.int .u16 x0, .int .u16 x1] 43)) HR2.out hes hls)
  have HB0 := Lib.hid hB0
  clear hr hr2 hls hB0
  unfold NarT
  by_cases hl : L.length ≤ 60
  · have hd : decide ((60 : Int) < L.length) = false := by simp; omega
    have HV := Lib.hid (refValid_any A c L _ HR.out (by omega))
    have h2 : vld L = false ∨ wideB Es = true := by rcases h with h | h; omega; exact h
    clear h
    generalize wideB Es = wb at *
    generalize vld L = vb at *
    generalize L.length = nl at *
    generalize Es.length = n at *
    rcases h2 with rfl | rfl
    · go_enter Try.func10, Try.ntmps10
      go_wp2_with (first
        | (go_at_call 16; refine (Long_any _ _ _ _).mono ?_; rintro e w' ⟨rfl, rfl⟩)
        | (go_at_call 21; refine HV.out.mono ?_; rintro e w' ⟨rfl, rfl⟩)
        | (go_at_call 17; refine (Sane_any _).mono ?_; rintro e w10 ⟨rfl, h10⟩))
      go_ret
      exact ⟨rfl, HB0.out.trs h10⟩
    · cases vb
      all_goals
        go_enter Try.func10, Try.ntmps10
        go_wp2_with (first
          | (go_at_call 16; refine (Long_any _ _ _ _).mono ?_; rintro e w' ⟨rfl, rfl⟩)
          | (go_at_call 21; refine HV.out.mono ?_; rintro e w' ⟨rfl, rfl⟩)
          | (go_at_call 44; refine HWI.out.mono ?_; rintro e w' ⟨rfl, rfl⟩)
          | (go_at_call 17; refine (Sane_any _).mono ?_; rintro e w10 ⟨rfl, h10⟩))
        go_ret
        exact ⟨rfl, HB0.out.trs h10⟩
  · have hd : decide ((60 : Int) < L.length) = true := by simp; omega
    go_enter Try.func10, Try.ntmps10
    go_wp2_with (first
      | (go_at_call 16; refine (Long_any _ _ _ _).mono ?_; rintro e w' ⟨rfl, rfl⟩)
      | (go_at_call 17; refine (Sane_any _).mono ?_; rintro e w10 ⟨rfl, h10⟩))
    go_ret
    exact ⟨rfl, HB0.out.trs h10⟩

/-- two remainders -/
theorem two_rem (x0 x1 : Int) (D : Nat) : ∃ a b : Int, (x0 % ((D : Int) + 1) = a ∧ x1 % ((D : Int) + 1) = b) ∧ (0 ≤ a ∧ a ≤ D) ∧ 0 ≤ b ∧ b ≤ D :=
  ⟨_, _, ⟨rfl, rfl⟩, ⟨Int.emod_nonneg _ (by omega), by have := Int.emod_lt_of_pos x0 (show (0 : Int) < (D : Int) + 1 by omega); omega⟩, Int.emod_nonneg _ (by omega), by have := Int.emod_lt_of_pos x1 (show (0 : Int) < (D : Int) + 1 by omega); omega⟩

set_option maxRecDepth 100000 in
set_option maxHeartbeats 4000000 in
theorem IceNarrows_no (w : World) (A : Option Addr) (c : Nat) (L : List (Int × Int)) (hr : RdP w w.heap.size A L) (A2 : Option Addr) (c2 : Nat) (Es : List (List Int)) (hr2 : RdL w w.heap.size A2 Es) (x0 x1 a b : Int) (D : Nat) (hx : (Lit.int .u16 x0).wf = true ∧ (Lit.int .u16 x1).wf = true)
    (hl : L.length ≤ 60) (hv : vld L = true) (hw : wideB Es = false) (hD : D = (mets L).length) (hab : x0 % ((D : Int) + 1) = a ∧ x1 % ((D : Int) + 1) = b) (hab2 : (0 ≤ a ∧ a ≤ D) ∧ 0 ≤ b ∧ b ≤ D) (hE : LosE L Es a b ≠ 0) : NarT w A c L.length A2 c2 Es.length x0 x1 := by
  have b0 := bounds_u16 hx.1
  have b1 := bounds_u16 hx.2
  have hd : decide ((60 : Int) < L.length) = false := by simp; omega
  have hno := wideB_no hw
  have h600 := mets_len600 (okL_of_vld hv)
  rw [← hD] at h600
  have hp : (0 : Int) < (D : Int) + 1 := by omega
  have hB0 := below_alloc w (.cells #[.int .u16 x0, .int .u16 x1] 43)
  have HBX := Lib.hid (Box.new w 43 #[.int .u16 x0, .int .u16 x1])
  have hR := hr.on hB0
  have hR2 := hr2.on hB0
  have HB0 := Lib.hid hB0
  have HX := Lib.hid hab
  have HV := Lib.hid (refValid_any A c L _ hR (by omega))
  have HWI := Lib.hid (Wide_any A2 c2 Es _ hR2 (by omega) (fun k hk => by have := hno.2 k hk; omega))
  have HMet := Lib.hid (fun W (hW : Below (w.alloc (.cells #[.int .u16 x0, .int .u16 x1] 43)).heap.size (w.alloc (.cells #[.int .u16 x0, .int .u16 x1] 43)) W) => Metres_any A c L W (hR.on hW) (okL_of_vld hv))
  have h3 := fun W (hW : Below (w.alloc (.cells #[.int .u16 x0, .int .u16 x1] 43)).heap.size (w.alloc (.cells #[.int .u16 x0, .int .u16 x1] 43)) W) => losses_any A A2 c c2 L Es a b W (hR.on hW) (by omega) (hR2.on hW) (by omega) (fun k hk => by have := hno.2 k hk; omega)
  have hV := LosL_len (L := L) (Es := Es) (x := a) (y := b)
  have H1 := fun W hW => Between_of _ _ _ _ _ _ W hV.1 (by omega) (h3 W hW)
  have H2 := fun W hW => Clearest_of _ _ _ _ _ _ W hV.1 (by omega) (h3 W hW)
  rw [show BetV (LosE L Es a b) (LosL L Es a b) = .tuple #[.int .i64 0, .int .i64 0, .int .i64 (LosE L Es a b)] from if_neg hE] at H1
  rw [show CleV (LosE L Es a b) (LosL L Es a b) = .tuple #[.int .i64 0, .int .i64 (LosE L Es a b)] from if_neg hE] at H2
  have H1 := Lib.hid H1
  have H2 := Lib.hid H2
  rw [hv] at HV
  rw [hw] at HWI
  rw [← hD] at HMet
  have hne : (LosE L Es a b != 0) = true := by rw [bne_iff_ne]; exact hE
  clear h3 hV hR hR2 hr hr2 hE hab hB0 hno hw hv
  generalize LosE L Es a b = E at *
  unfold NarT
  generalize L.length = nl at *
  generalize Es.length = n at *
  generalize mets L = ML at *
  clear hD
  go_enter Try.func10, Try.ntmps10
  go_upto_region 1 with (fail)
  generalize w.alloc (.cells #[.int .u16 x0, .int .u16 x1] 43) = W0 at *
  go_wp2_with (first
    | (go_at_call 16; refine (Long_any _ _ _ _).mono ?_; rintro e w' ⟨rfl, rfl⟩)
    | (go_at_call 21; refine HV.out.mono ?_; rintro e w' ⟨rfl, rfl⟩)
    | (go_at_call 44; refine HWI.out.mono ?_; rintro e w' ⟨rfl, rfl⟩)
    | (go_at_call 28; refine (HMet.out _ (Below.refl _ _)).mono ?_; rintro e w1 ⟨h1, A1, c1, rfl, hR1⟩; have hbx := HBX.out.on h1; have q0 := hbx.cell 0; have q1 := hbx.cell 1; simp at q0 q1))
  clear hbx hR1
  go_quiet (fail)
  rw [HX.out.1, HX.out.2]
  have h1 := h1.drewsN nq
  generalize w1.drewN nq = w2 at *
  clear q0 q1
  go_wp2_with (first
    | (go_at_call 45; refine (H1.out _ h1).mono ?_; rintro e w3 ⟨rfl, h3⟩; have h3 := h1.trs h3)
    | (go_at_call 47; refine (H2.out _ h3).mono ?_; rintro e w4 ⟨rfl, h4⟩; have h4 := h3.trs h4)
    | (go_at_call 17; refine (Sane_any _).mono ?_; rintro e w10 ⟨rfl, h10⟩))
  go_ret
  exact ⟨by first | rfl | simp, (HB0.out.trs h4).trs h10⟩
end Go.Proofs.Ytnodeooammplfaa
