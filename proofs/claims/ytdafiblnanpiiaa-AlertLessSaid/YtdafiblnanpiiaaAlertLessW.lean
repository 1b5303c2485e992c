/- The walk of the law AlertLess. -/
import Derived.Test.YtdafiblnanpiiaaAlLs
import Derived.Test.YtdafiblnanpiiaaAlertStretchesW
import Derived.OpenShut
namespace Go.Proofs.Ytdafiblnanpiiaa
open Go.RowKit
set_option linter.unusedSimpArgs false
set_option linter.unusedVariables false

/-- what is told of tasks that are less -/
structure LessT (L L2 : List (Int × Int × Int)) : Prop where
  vld : vldT L2 = true
  sev : ∀ k : Int, SevP L k → SevP L2 k
  slk : slk L ≤ Go.Proofs.Ytdafiblnanpiiaa.slk L2
  len : L2.length ≤ 12

theorem OwnT.shape {w : World} {B : Nat} {e : TypeId} {v : Value} {l : List (Int × Int × Int)} (h : OwnT w B e v l) (hne : l ≠ []) : ∃ g c, v = .slice (some ⟨g, 0, none⟩) l.length c ∧ B ≤ g ∧ g < w.heap.size ∧ (∀ k, k < l.length → w.cell? ⟨g, k * 3 + 2, none⟩ = some (.int .i64 (tc l k))) ∧ ∀ k, w.frozen? ⟨g, k, none⟩ = false := by
  rcases h.form with ⟨_, h0⟩ | ⟨g, c, h1, h2, h3, _, _, h4, h5⟩
  · exact absurd h0 hne
  · exact ⟨g, c, h1, h2, h3, fun k hk => (h4 k hk).2.2, h5⟩
theorem OwnT.rdS {w : World} {B : Nat} {e : TypeId} {g n c : Nat} {l : List (Int × Int × Int)} (h : OwnT w B e (.slice (some ⟨g, 0, none⟩) n c) l) : RdT w w.heap.size (some ⟨g, 0, none⟩) l := by
  rcases h.form with ⟨h0, _⟩ | ⟨g', c', h1, _, h3, _, _, h4, _⟩
  · cases h0
  · injection h1 with h1 _ _
    injection h1 with h1
    injection h1 with h1 _
    subst h1
    exact .inr ⟨g, 0, rfl, h3, fun k hk => by rw [Nat.zero_add]; exact h4 k hk⟩
/-- what is told of tasks, and of others that are less -/
def LessP (A : Option Addr) (c n : Nat) (A8 : Option Addr) (c8 n8 : Nat) (W8 : World) : Prop :=
  ∃ (d1 d2 : Bool) (m1 m2 f1 f2 s1 s2 : Int), (d1 = true → d2 = true) ∧ s1 ≤ s2 ∧ ((f1 == 0) = false ∨ (f1 = 0 ∧ f2 = 0 ∧ m2 ≤ m1)) ∧
    (∀ W, Below W8.heap.size W8 W → Calls Try.prog 24 #[.slice A n c] W fun e w' => e = .returned (.tuple #[.bool d1, .int .i64 0]) ∧ Below W.heap.size W w') ∧
    (∀ W, Below W8.heap.size W8 W → Calls Try.prog 24 #[.slice A8 n8 c8] W fun e w' => e = .returned (.tuple #[.bool d2, .int .i64 0]) ∧ Below W.heap.size W w') ∧
    (∀ W, Below W8.heap.size W8 W → Calls Try.prog 29 #[.slice A n c] W fun e w' => e = .returned (.tuple #[.int .i64 m1, .int .i64 f1]) ∧ Below W.heap.size W w') ∧
    (∀ W, Below W8.heap.size W8 W → Calls Try.prog 29 #[.slice A8 n8 c8] W fun e w' => e = .returned (.tuple #[.int .i64 m2, .int .i64 f2]) ∧ Below W.heap.size W w') ∧
    (∀ W, Below W8.heap.size W8 W → Calls Try.prog 18 #[.slice A n c] W fun e w' => e = .returned (.tuple #[.int .i64 s1, .int .i64 0]) ∧ Below W.heap.size W w') ∧
    (∀ W, Below W8.heap.size W8 W → Calls Try.prog 18 #[.slice A8 n8 c8] W fun e w' => e = .returned (.tuple #[.int .i64 s2, .int .i64 0]) ∧ Below W.heap.size W w')
theorem LessP_mk {A : Option Addr} {c : Nat} {L : List (Int × Int × Int)} {A8 : Option Addr} {c8 : Nat} {L2 : List (Int × Int × Int)} {W8 : World} (hv : vldT L = true) (hn : L.length ≤ 12) (hr : RdT W8 W8.heap.size A L) (hr8 : RdT W8 W8.heap.size A8 L2) (h : LessT L L2) : LessP A c L.length A8 c8 L2.length W8 := by
  have e1 : MachV L = .tuple #[.int .i64 (mac L), .int .i64 (if mac L = 0 then 5 else 0)] := by unfold MachV; rw [hv]; rfl
  have e2 : MachV L2 = .tuple #[.int .i64 (mac L2), .int .i64 (if mac L2 = 0 then 5 else 0)] := by unfold MachV; rw [h.vld]; rfl
  have hl := h.len
  refine ⟨decide (0 ≤ slk L), decide (0 ≤ slk L2), mac L, mac L2, if mac L = 0 then 5 else 0, if mac L2 = 0 then 5 else 0, slk L, slk L2, ?_, h.slk, ?_, fun W hW => ?_, fun W hW => ?_, fun W hW => ?_, fun W hW => ?_, fun W hW => ?_, fun W hW => ?_⟩
  · intro h1; rw [decide_eq_true_eq] at h1 ⊢; have := h.slk; omega
  · by_cases h0 : mac L = 0
    · rw [if_pos h0]; exact .inl rfl
    · obtain ⟨h1, h2⟩ := mac_less h.sev h0
      rw [if_neg h0, if_neg h1]; exact .inr ⟨rfl, rfl, by omega⟩
  · have := Can_any A c L W (hr.on hW) (by omega); rwa [CanV_yes hv] at this
  · have := Can_any A8 c8 L2 W (hr8.on hW) (by omega); rwa [CanV_yes h.vld] at this
  · have := Machines_any A c L W (hr.on hW) (by omega); rwa [e1] at this
  · have := Machines_any A8 c8 L2 W (hr8.on hW) (by omega); rwa [e2] at this
  · have := Slack_any A c L W (hr.on hW) (by omega); rwa [SlackV_yes hv] at this
  · have := Slack_any A8 c8 L2 W (hr8.on hW) (by omega); rwa [SlackV_yes h.vld] at this
theorem less_drop {L : List (Int × Int × Int)} (hok : okT L) {x : Nat} (hx : x < L.length) (h0 : 1 ≤ (dropT L x).length) : LessT L (dropT L x) :=
  ⟨vldT_of (okT_drop hok x h0), fun k h => sev_drop hx h, slk_drop hok x, by have := dropT_len hx; have := hok.1.2; omega⟩
theorem less_work {L : List (Int × Int × Int)} (hok : okT L) {x : Nat} (hx : x < L.length) {v : Int} (h1 : 1 ≤ v) (h2 : v ≤ tc L x) : LessT L (workT L x v) :=
  ⟨vldT_of (okT_work hok hx h1 h2), fun k h => sev_work hok hx h1 h2 h, slk_work hok hx h1 h2, by rw [workT_len]; exact hok.1.2⟩

set_option maxRecDepth 100000 in
set_option maxHeartbeats 16000000 in
theorem AlertLess_walk (w : World) (A : Option Addr) (c : Nat) (L : List (Int × Int × Int)) (hr : RdT w w.heap.size A L) (_hm : L.length ≤ maxLen) (hcap : L.length ≤ c ∧ c ≤ maxLen) (y : Int) (hy : (Lit.int .u8 y).wf = true) (y2 : Int) (hy2 : (Lit.int .u8 y2).wf = true) :
    Calls Try.prog 9 #[.slice A L.length c, .int .u8 y, .int .u8 y2] w fun e w' => e = .returned (.bool true) ∧ Below w.heap.size w w' := by
  have HR := Lib.hid hr; clear hr
  by_cases hl : L.length ≤ 40
  · have hd : decide ((40 : Int) < L.length) = false := by simp; omega
    have hl2 : L.length ≤ 1125899906842624 := by omega
    have HV := Lib.hid (refValid_any A c L w HR.out hl2)
    cases hv : vldT L <;> rw [hv] at HV
    · clear hy hy2 hcap
      go_enter Try.func9, Try.ntmps9
      go_wp2_with (first
        | (go_at_call 14; refine (Long_any _ _ _ _).mono ?_; rintro e w' ⟨rfl, rfl⟩)
        | (go_at_call 22; refine HV.out.mono ?_; rintro e w1 ⟨rfl, h1⟩)
        | (go_at_call 15; refine (Sane_any _).mono ?_; rintro e w10 ⟨rfl, h10⟩))
      go_ret
      exact ⟨rfl, h1.trs h10⟩
    · have hok := okT_of hv
      have hn1 := hok.1.1
      have hn12 := hok.1.2
      have hby := bounds_u8 hy
      have hby2 := bounds_u8 hy2
      have hw8 : wrap64 y = y := IntWalk.wrap64_in _ (by omega)
      obtain ⟨x, hx, hxn⟩ : ∃ x : Nat, (wrap64 y).tmod (L.length : Int) = x ∧ x < L.length := by
        have h0 : 0 ≤ y.tmod (L.length : Int) := Int.tmod_nonneg _ (by omega)
        have h1 : y.tmod (L.length : Int) < L.length := Int.tmod_lt_of_pos _ (by omega)
        exact ⟨(y.tmod (L.length : Int)).toNat, by rw [hw8]; omega, by omega⟩
      have hq0 : ((L.length : Int) == 0) = false := by rw [beq_eq_false_iff_ne]; omega
      obtain ⟨bb, o, rfl, hbb, cc1, cc2, cc3⟩ := HR.out.at_ (k := x) hxn
      have hc1 := hcap.1
      have hc2 := hcap.2
      unfold maxLen at hc2
      have HT1 := Lib.hid (HR.out.take x)
      have HT2 := Lib.hid (HR.out.drop (x + 1))
      have htl : (L.take x).length = x := by rw [List.length_take]; omega
      have hdl : (L.drop (x + 1)).length = L.length - (x + 1) := List.length_drop
      have hdn := dropT_len (L := L) hxn
      have HDT : Hid (L.take x ++ L.drop (x + 1) = dropT L x) := Lib.hid rfl
      have hi0 : (0 : Int) ≤ (x : Int) := by omega
      have hi1 : (x : Int) ≤ (c : Int) := by omega
      have hi2 : (x : Int) < (L.length : Int) := by omega
      have hi3 : (x : Int) + 1 ≤ (L.length : Int) := by omega
      have hi4 : (L.length : Int) ≤ (c : Int) := by omega
      have v1 : IntKind.i64.wrap ((x : Int) + 1) = (x : Int) + 1 := IntWalk.i64_in _ (by omega)
      have v2 : ((x : Int) + 1).toNat = x + 1 := by omega
      have hi5 : (0 : Int) ≤ (x : Int) + 1 := by omega
      have hi6 : x + 1 ≤ L.length := by omega
      have HLP := Lib.hid (fun A8 c8 L2 W8 (hB : Below w.heap.size w W8) hr8 h => LessP_mk (c := c) (A8 := A8) (c8 := c8) (L2 := L2) (W8 := W8) hv hn12 (HR.out.on hB) hr8 h)
      have HLD := Lib.hid (less_drop hok hxn)
      have HLW := Lib.hid (fun v h1 h2 => less_work hok hxn (v := v) h1 h2)
      have hz := hok.2 x hxn
      have HZ := Lib.hid (show 1 ≤ tc L x ∧ tc L x ≤ 100 by omega)
      clear hz
      have HTL := Lib.hid htl
      have HDL := Lib.hid hdl
      have HBY := Lib.hid (And.intro hby hby2)
      clear hw8 hby hby2 hy hy2 hcap htl hdl cc1 cc2
      generalize hn : L.length = n at *
      by_cases hcx : c = x + 1
      · have HDE : Hid (L.drop (x + 1) = []) := Lib.hid (List.drop_of_length_le (by omega))
        have hcx2 : (c = x + 1) = True := eq_true hcx
        have HCX := Lib.hid hcx
        clear hcx
        go_enter Try.func9, Try.ntmps9
        go_wp2_with (first
          | (go_at_call 14; refine (Long_any _ _ _ _).mono ?_; rintro e w' ⟨rfl, rfl⟩)
          | (go_at_call 22; refine HV.out.mono ?_; rintro e w1 ⟨rfl, h1⟩; have HB1 := Lib.hid h1; clear h1))
        go_region_held3 (fun w' => Below w1.heap.size w1 w') (first | exact h6 | exact h5 | exact (Below.refl _ _).drewsN 1 | exact ((Below.refl _ _).drewsN 1).trs (below_alloc _ _) | exact (‹Below w1.heap.size w1 _›).trs (below_alloc _ _) | trace_state)
          (first
            | (refine step_app_tripsA 22 36 rfl (.tmp 38) (.tmp 42) rfl Try.underlying22 infoTask _ w1.heap.size _ (L.take x) (L.drop (x + 1)) bb o (c - (x + 1)) rfl (by rw [HDL.out]; rfl) hO5 (.inl HDE.out) (by rw [HTL.out]; omega) (by rw [HDL.out]; omega) h5.size ?_; intro v6 w6 hO6 hB6; have h6 := h5.trans hB6)
            | (refine step_app_tripsA 22 36 rfl (.tmp 34) (.tmp 37) rfl Try.underlying22 infoTask _ w1.heap.size _ [] (L.take x) bb o c rfl (by rw [HTL.out]; rfl) (own_e1 (by simp) (by simp)) ((HT1.out.on HB1.out).on (((Below.refl _ _).drewsN 1).trs (below_alloc _ _))) (by simp) (by rw [HTL.out]; omega) (by simp) ?_; intro v5 w5 hO5 hB5; rw [List.nil_append] at hO5; have h5 := (((Below.refl _ _).drewsN 1).trs (below_alloc _ _)).trans hB5))
        rw [HDT.out] at hO6
        obtain ⟨A8, c8, rfl, r8⟩ := hO6.rd
        have HR8 := Lib.hid r8
        have HB6 := Lib.hid (HB1.out.trs h6)
        clear r8 hO6 hO5 hB5 hB6 h5
        have hy0 := HBY.out.2.1
        have hy1 := HBY.out.2.2
        by_cases hp : y2 % 2 = 1
        · have hp2 : (y2 % 2 == 1) = true := by rw [beq_iff_eq]; exact hp
          clear hp
          obtain ⟨Z, hZ⟩ : ∃ Z : Int, Z = tc L x := ⟨_, rfl⟩
          have cc4 := (HB6.out.cell (p := ⟨bb, o + x * 3 + 2, none⟩) hbb).trans cc3
          rw [← hZ] at cc4
          have hz1 := HZ.out.1
          have hz2 := HZ.out.2
          rw [← hZ] at hz1 hz2
          have HZE := Lib.hid hZ
          have hne : L ≠ [] := fun h => by rw [h] at hn; simp at hn; omega
          have HNE := Lib.hid hne
          have HR6 := Lib.hid ((HR.out.on HB6.out).on (below_alloc w6 (.cells #[] 36)))
          clear hZ cc3 hne
          go_wp2_with (at_builtin; refine wp_app_trips 22 36 rfl (.tmp 52) (.tmp 53) rfl Try.underlying22 infoTask (w6.alloc (.cells #[] 36)) w6.heap.size (.slice (some ⟨w6.heap.size, 0, none⟩) 0 0) [] L (some ⟨bb, o, none⟩) c rfl (by rw [hn]; rfl) (OwnT.empty w6 _) HR6.out HNE.out (by decide) (by omega) (by simp) ?_; intro v7 w7 hO7 hB7 _ _; rw [List.nil_append] at hO7; obtain ⟨g, c7, rfl, hg1, hg2, hcl, hfr⟩ := hO7.shape HNE.out; have HO7 := Lib.hid hO7; have HB7 := Lib.hid ((below_alloc w6 (.cells #[] 36)).trans hB7); have cg := hcl x (by rw [hn]; exact hxn); have fg := hfr (x * 3 + 2); have ct := (HB7.out.cell (p := ⟨bb, o + x * 3 + 2, none⟩) (World.block_lt_of_cell? _ _ cc4)).trans cc4; rw [hn]; clear hO7 hB7 hcl hfr)
          have hm0 : 0 ≤ y2 / 2 % Z := Int.emod_nonneg _ (by omega)
          have hm1 : y2 / 2 % Z < Z := Int.emod_lt_of_pos _ (by omega)
          have ev : wrap64 (1 + y2 / 2 % Z) = 1 + y2 / 2 % Z := IntWalk.wrap64_in _ (by omega)
          rw [ev]
          clear ev
          obtain ⟨VV, hVV⟩ : ∃ VV : Int, VV = 1 + y2 / 2 % Z := ⟨_, rfl⟩
          rw [← hVV]
          have hO8 := HO7.out.setT x 2 VV (by rw [hn]; exact hxn) (by omega)
          have hWT : L.set x (if 2 = 0 then VV else ta L x, if 2 = 1 then VV else tb L x, if 2 = 2 then VV else tc L x) = workT L x VV := by simp [workT]
          rw [hWT] at hO8
          have hwl := workT_len L x VV
          have HBW := Lib.hid ((HB6.out.trs HB7.out).setCell (p := ⟨g, x * 3 + 2, none⟩) (by show w.heap.size ≤ g; have := HB6.out.size; omega) (.int .i64 VV))
          have HLQ := Lib.hid (HLP.out (some ⟨g, 0, none⟩) c7 (workT L x VV) _ HBW.out hO8.rdS (HLW.out VV (by omega) (by have := HZE.out; omega)))
          unfold LessP at HLQ
          rw [hwl, hn] at HLQ
          clear hO8 hWT hwl hm0 hm1 hVV cg fg ct cc4
          generalize World.setCell w7 ⟨g, x * 3 + 2, none⟩ (.int .i64 VV) = W8 at *
          obtain ⟨d1, d2, m1, m2, f1, f2, s1, s2, hdd, hss, hmf, HT1, HT2, HT3, HT4, HT5, HT6⟩ := HLQ.out
          have HT1 := Lib.hid HT1
          have HT2 := Lib.hid HT2
          have HT3 := Lib.hid HT3
          have HT4 := Lib.hid HT4
          have HT5 := Lib.hid HT5
          have HT6 := Lib.hid HT6
          have hss2 : decide (s1 ≤ s2) = true := by rw [decide_eq_true_eq]; exact hss
          rcases (show (d1 = false ∧ d2 = false) ∨ (d1 = false ∧ d2 = true) ∨ (d1 = true ∧ d2 = true) by cases d1 <;> cases d2 <;> simp_all) with ⟨rfl, rfl⟩ | ⟨rfl, rfl⟩ | ⟨rfl, rfl⟩
          all_goals
            clear hdd hss
            rcases hmf with hf1 | ⟨rfl, rfl, hm12⟩
            · have hf2 : (f1 != 0) = true := by rw [bne, hf1]; rfl
              go_wp2_with (first
                | (have := p1; go_at_call 24; refine (HT2.out _ q1).mono ?_; rintro e p2 ⟨rfl, q2⟩; have q2 := q1.trs q2)
                | (go_at_call 24; refine (HT1.out _ (Below.refl _ _)).mono ?_; rintro e p1 ⟨rfl, q1⟩)
                | (have := p3; go_at_call 29; refine (HT4.out _ q3).mono ?_; rintro e p4 ⟨rfl, q4⟩; have q4 := q3.trs q4)
                | (go_at_call 29; refine (HT3.out _ q2).mono ?_; rintro e p3 ⟨rfl, q3⟩; have q3 := q2.trs q3)
                | (have := p5; go_at_call 18; refine (HT6.out _ q5).mono ?_; rintro e p6 ⟨rfl, q6⟩; have q6 := q5.trs q6)
                | (go_at_call 18; refine (HT5.out _ q4).mono ?_; rintro e p5 ⟨rfl, q5⟩; have q5 := q4.trs q5)
                | (go_at_call 15; refine (Sane_any _).mono ?_; rintro e p7 ⟨rfl, q7⟩))
              go_ret
              exact ⟨ret_bool (by first | rfl | simp), (HBW.out.trs q6).trs q7⟩
            · have hf2 : decide (m2 ≤ m1) = true := by rw [decide_eq_true_eq]; exact hm12
              clear hm12
              go_wp2_with (first
                | (have := p1; go_at_call 24; refine (HT2.out _ q1).mono ?_; rintro e p2 ⟨rfl, q2⟩; have q2 := q1.trs q2)
                | (go_at_call 24; refine (HT1.out _ (Below.refl _ _)).mono ?_; rintro e p1 ⟨rfl, q1⟩)
                | (have := p3; go_at_call 29; refine (HT4.out _ q3).mono ?_; rintro e p4 ⟨rfl, q4⟩; have q4 := q3.trs q4)
                | (go_at_call 29; refine (HT3.out _ q2).mono ?_; rintro e p3 ⟨rfl, q3⟩; have q3 := q2.trs q3)
                | (have := p5; go_at_call 18; refine (HT6.out _ q5).mono ?_; rintro e p6 ⟨rfl, q6⟩; have q6 := q5.trs q6)
                | (go_at_call 18; refine (HT5.out _ q4).mono ?_; rintro e p5 ⟨rfl, q5⟩; have q5 := q4.trs q5)
                | (go_at_call 15; refine (Sane_any _).mono ?_; rintro e p7 ⟨rfl, q7⟩))
              go_ret
              exact ⟨ret_bool (by first | rfl | simp), (HBW.out.trs q6).trs q7⟩
        · have hp2 : (y2 % 2 == 1) = false := by rw [beq_eq_false_iff_ne]; exact hp
          clear hp
          by_cases hd0 : (dropT L x).length = 0
          · have hd1 : (((dropT L x).length : Int) == 0) = true := by rw [hd0]; rfl
            clear hd0
            obtain ⟨Z, hZ⟩ : ∃ Z : Int, Z = tc L x := ⟨_, rfl⟩
            have cc4 := (HB6.out.cell (p := ⟨bb, o + x * 3 + 2, none⟩) hbb).trans cc3
            rw [← hZ] at cc4
            have hz1 := HZ.out.1
            have hz2 := HZ.out.2
            rw [← hZ] at hz1 hz2
            have HZE := Lib.hid hZ
            have hne : L ≠ [] := fun h => by rw [h] at hn; simp at hn; omega
            have HNE := Lib.hid hne
            have HR6 := Lib.hid ((HR.out.on HB6.out).on (below_alloc w6 (.cells #[] 36)))
            clear hZ cc3 hne
            go_wp2_with (at_builtin; refine wp_app_trips 22 36 rfl (.tmp 52) (.tmp 53) rfl Try.underlying22 infoTask (w6.alloc (.cells #[] 36)) w6.heap.size (.slice (some ⟨w6.heap.size, 0, none⟩) 0 0) [] L (some ⟨bb, o, none⟩) c rfl (by rw [hn]; rfl) (OwnT.empty w6 _) HR6.out HNE.out (by decide) (by omega) (by simp) ?_; intro v7 w7 hO7 hB7 _ _; rw [List.nil_append] at hO7; obtain ⟨g, c7, rfl, hg1, hg2, hcl, hfr⟩ := hO7.shape HNE.out; have HO7 := Lib.hid hO7; have HB7 := Lib.hid ((below_alloc w6 (.cells #[] 36)).trans hB7); have cg := hcl x (by rw [hn]; exact hxn); have fg := hfr (x * 3 + 2); have ct := (HB7.out.cell (p := ⟨bb, o + x * 3 + 2, none⟩) (World.block_lt_of_cell? _ _ cc4)).trans cc4; rw [hn]; clear hO7 hB7 hcl hfr)
            have hm0 : 0 ≤ y2 / 2 % Z := Int.emod_nonneg _ (by omega)
            have hm1 : y2 / 2 % Z < Z := Int.emod_lt_of_pos _ (by omega)
            have ev : wrap64 (1 + y2 / 2 % Z) = 1 + y2 / 2 % Z := IntWalk.wrap64_in _ (by omega)
            rw [ev]
            clear ev
            obtain ⟨VV, hVV⟩ : ∃ VV : Int, VV = 1 + y2 / 2 % Z := ⟨_, rfl⟩
            rw [← hVV]
            have hO8 := HO7.out.setT x 2 VV (by rw [hn]; exact hxn) (by omega)
            have hWT : L.set x (if 2 = 0 then VV else ta L x, if 2 = 1 then VV else tb L x, if 2 = 2 then VV else tc L x) = workT L x VV := by simp [workT]
            rw [hWT] at hO8
            have hwl := workT_len L x VV
            have HBW := Lib.hid ((HB6.out.trs HB7.out).setCell (p := ⟨g, x * 3 + 2, none⟩) (by show w.heap.size ≤ g; have := HB6.out.size; omega) (.int .i64 VV))
            have HLQ := Lib.hid (HLP.out (some ⟨g, 0, none⟩) c7 (workT L x VV) _ HBW.out hO8.rdS (HLW.out VV (by omega) (by have := HZE.out; omega)))
            unfold LessP at HLQ
            rw [hwl, hn] at HLQ
            clear hO8 hWT hwl hm0 hm1 hVV cg fg ct cc4
            generalize World.setCell w7 ⟨g, x * 3 + 2, none⟩ (.int .i64 VV) = W8 at *
            obtain ⟨d1, d2, m1, m2, f1, f2, s1, s2, hdd, hss, hmf, HT1, HT2, HT3, HT4, HT5, HT6⟩ := HLQ.out
            have HT1 := Lib.hid HT1
            have HT2 := Lib.hid HT2
            have HT3 := Lib.hid HT3
            have HT4 := Lib.hid HT4
            have HT5 := Lib.hid HT5
            have HT6 := Lib.hid HT6
            have hss2 : decide (s1 ≤ s2) = true := by rw [decide_eq_true_eq]; exact hss
            rcases (show (d1 = false ∧ d2 = false) ∨ (d1 = false ∧ d2 = true) ∨ (d1 = true ∧ d2 = true) by cases d1 <;> cases d2 <;> simp_all) with ⟨rfl, rfl⟩ | ⟨rfl, rfl⟩ | ⟨rfl, rfl⟩
            all_goals
              clear hdd hss
              rcases hmf with hf1 | ⟨rfl, rfl, hm12⟩
              · have hf2 : (f1 != 0) = true := by rw [bne, hf1]; rfl
                go_wp2_with (first
                  | (have := p1; go_at_call 24; refine (HT2.out _ q1).mono ?_; rintro e p2 ⟨rfl, q2⟩; have q2 := q1.trs q2)
                  | (go_at_call 24; refine (HT1.out _ (Below.refl _ _)).mono ?_; rintro e p1 ⟨rfl, q1⟩)
                  | (have := p3; go_at_call 29; refine (HT4.out _ q3).mono ?_; rintro e p4 ⟨rfl, q4⟩; have q4 := q3.trs q4)
                  | (go_at_call 29; refine (HT3.out _ q2).mono ?_; rintro e p3 ⟨rfl, q3⟩; have q3 := q2.trs q3)
                  | (have := p5; go_at_call 18; refine (HT6.out _ q5).mono ?_; rintro e p6 ⟨rfl, q6⟩; have q6 := q5.trs q6)
                  | (go_at_call 18; refine (HT5.out _ q4).mono ?_; rintro e p5 ⟨rfl, q5⟩; have q5 := q4.trs q5)
                  | (go_at_call 15; refine (Sane_any _).mono ?_; rintro e p7 ⟨rfl, q7⟩))
                go_ret
                exact ⟨ret_bool (by first | rfl | simp), (HBW.out.trs q6).trs q7⟩
              · have hf2 : decide (m2 ≤ m1) = true := by rw [decide_eq_true_eq]; exact hm12
                clear hm12
                go_wp2_with (first
                  | (have := p1; go_at_call 24; refine (HT2.out _ q1).mono ?_; rintro e p2 ⟨rfl, q2⟩; have q2 := q1.trs q2)
                  | (go_at_call 24; refine (HT1.out _ (Below.refl _ _)).mono ?_; rintro e p1 ⟨rfl, q1⟩)
                  | (have := p3; go_at_call 29; refine (HT4.out _ q3).mono ?_; rintro e p4 ⟨rfl, q4⟩; have q4 := q3.trs q4)
                  | (go_at_call 29; refine (HT3.out _ q2).mono ?_; rintro e p3 ⟨rfl, q3⟩; have q3 := q2.trs q3)
                  | (have := p5; go_at_call 18; refine (HT6.out _ q5).mono ?_; rintro e p6 ⟨rfl, q6⟩; have q6 := q5.trs q6)
                  | (go_at_call 18; refine (HT5.out _ q4).mono ?_; rintro e p5 ⟨rfl, q5⟩; have q5 := q4.trs q5)
                  | (go_at_call 15; refine (Sane_any _).mono ?_; rintro e p7 ⟨rfl, q7⟩))
                go_ret
                exact ⟨ret_bool (by first | rfl | simp), (HBW.out.trs q6).trs q7⟩
          · have hd1 : (((dropT L x).length : Int) == 0) = false := by rw [beq_eq_false_iff_ne]; omega
            have HLQ := Lib.hid (HLP.out A8 c8 (dropT L x) w6 HB6.out HR8.out (HLD.out (by omega)))
            have HBW := Lib.hid HB6.out
            unfold LessP at HLQ
            clear hd0
            generalize (dropT L x).length = nd at *
            obtain ⟨d1, d2, m1, m2, f1, f2, s1, s2, hdd, hss, hmf, HT1, HT2, HT3, HT4, HT5, HT6⟩ := HLQ.out
            have HT1 := Lib.hid HT1
            have HT2 := Lib.hid HT2
            have HT3 := Lib.hid HT3
            have HT4 := Lib.hid HT4
            have HT5 := Lib.hid HT5
            have HT6 := Lib.hid HT6
            have hss2 : decide (s1 ≤ s2) = true := by rw [decide_eq_true_eq]; exact hss
            rcases (show (d1 = false ∧ d2 = false) ∨ (d1 = false ∧ d2 = true) ∨ (d1 = true ∧ d2 = true) by cases d1 <;> cases d2 <;> simp_all) with ⟨rfl, rfl⟩ | ⟨rfl, rfl⟩ | ⟨rfl, rfl⟩
            all_goals
              clear hdd hss
              rcases hmf with hf1 | ⟨rfl, rfl, hm12⟩
              · have hf2 : (f1 != 0) = true := by rw [bne, hf1]; rfl
                go_wp2_with (first
                  | (have := p1; go_at_call 24; refine (HT2.out _ q1).mono ?_; rintro e p2 ⟨rfl, q2⟩; have q2 := q1.trs q2)
                  | (go_at_call 24; refine (HT1.out _ (Below.refl _ _)).mono ?_; rintro e p1 ⟨rfl, q1⟩)
                  | (have := p3; go_at_call 29; refine (HT4.out _ q3).mono ?_; rintro e p4 ⟨rfl, q4⟩; have q4 := q3.trs q4)
                  | (go_at_call 29; refine (HT3.out _ q2).mono ?_; rintro e p3 ⟨rfl, q3⟩; have q3 := q2.trs q3)
                  | (have := p5; go_at_call 18; refine (HT6.out _ q5).mono ?_; rintro e p6 ⟨rfl, q6⟩; have q6 := q5.trs q6)
                  | (go_at_call 18; refine (HT5.out _ q4).mono ?_; rintro e p5 ⟨rfl, q5⟩; have q5 := q4.trs q5)
                  | (go_at_call 15; refine (Sane_any _).mono ?_; rintro e p7 ⟨rfl, q7⟩))
                go_ret
                exact ⟨ret_bool (by first | rfl | simp), (HBW.out.trs q6).trs q7⟩
              · have hf2 : decide (m2 ≤ m1) = true := by rw [decide_eq_true_eq]; exact hm12
                clear hm12
                go_wp2_with (first
                  | (have := p1; go_at_call 24; refine (HT2.out _ q1).mono ?_; rintro e p2 ⟨rfl, q2⟩; have q2 := q1.trs q2)
                  | (go_at_call 24; refine (HT1.out _ (Below.refl _ _)).mono ?_; rintro e p1 ⟨rfl, q1⟩)
                  | (have := p3; go_at_call 29; refine (HT4.out _ q3).mono ?_; rintro e p4 ⟨rfl, q4⟩; have q4 := q3.trs q4)
                  | (go_at_call 29; refine (HT3.out _ q2).mono ?_; rintro e p3 ⟨rfl, q3⟩; have q3 := q2.trs q3)
                  | (have := p5; go_at_call 18; refine (HT6.out _ q5).mono ?_; rintro e p6 ⟨rfl, q6⟩; have q6 := q5.trs q6)
                  | (go_at_call 18; refine (HT5.out _ q4).mono ?_; rintro e p5 ⟨rfl, q5⟩; have q5 := q4.trs q5)
                  | (go_at_call 15; refine (Sane_any _).mono ?_; rintro e p7 ⟨rfl, q7⟩))
                go_ret
                exact ⟨ret_bool (by first | rfl | simp), (HBW.out.trs q6).trs q7⟩
      · have hcx0 : True := trivial
        go_enter Try.func9, Try.ntmps9
        go_wp2_with (first
          | (go_at_call 14; refine (Long_any _ _ _ _).mono ?_; rintro e w' ⟨rfl, rfl⟩)
          | (go_at_call 22; refine HV.out.mono ?_; rintro e w1 ⟨rfl, h1⟩; have HB1 := Lib.hid h1; clear h1))
        go_region_held3 (fun w' => Below w1.heap.size w1 w') (first | exact h6 | exact h5 | exact (Below.refl _ _).drewsN 1 | exact ((Below.refl _ _).drewsN 1).trs (below_alloc _ _) | exact (‹Below w1.heap.size w1 _›).trs (below_alloc _ _) | trace_state)
          (first
            | (refine step_app_tripsA 22 36 rfl (.tmp 38) (.tmp 42) rfl Try.underlying22 infoTask _ w1.heap.size _ (L.take x) (L.drop (x + 1)) bb (o + (x + 1) * 3) (c - (x + 1)) rfl (by rw [HDL.out]; rfl) hO5 ((HT2.out.on HB1.out).on h5) (by rw [HTL.out]; omega) (by rw [HDL.out]; omega) h5.size ?_; intro v6 w6 hO6 hB6; have h6 := h5.trans hB6)
            | (refine step_app_tripsA 22 36 rfl (.tmp 34) (.tmp 37) rfl Try.underlying22 infoTask _ w1.heap.size _ [] (L.take x) bb o c rfl (by rw [HTL.out]; rfl) (own_e1 (by simp) (by simp)) ((HT1.out.on HB1.out).on (((Below.refl _ _).drewsN 1).trs (below_alloc _ _))) (by simp) (by rw [HTL.out]; omega) (by simp) ?_; intro v5 w5 hO5 hB5; rw [List.nil_append] at hO5; have h5 := (((Below.refl _ _).drewsN 1).trs (below_alloc _ _)).trans hB5))
        rw [HDT.out] at hO6
        obtain ⟨A8, c8, rfl, r8⟩ := hO6.rd
        have HR8 := Lib.hid r8
        have HB6 := Lib.hid (HB1.out.trs h6)
        clear r8 hO6 hO5 hB5 hB6 h5
        have hy0 := HBY.out.2.1
        have hy1 := HBY.out.2.2
        by_cases hp : y2 % 2 = 1
        · have hp2 : (y2 % 2 == 1) = true := by rw [beq_iff_eq]; exact hp
          clear hp
          obtain ⟨Z, hZ⟩ : ∃ Z : Int, Z = tc L x := ⟨_, rfl⟩
          have cc4 := (HB6.out.cell (p := ⟨bb, o + x * 3 + 2, none⟩) hbb).trans cc3
          rw [← hZ] at cc4
          have hz1 := HZ.out.1
          have hz2 := HZ.out.2
          rw [← hZ] at hz1 hz2
          have HZE := Lib.hid hZ
          have hne : L ≠ [] := fun h => by rw [h] at hn; simp at hn; omega
          have HNE := Lib.hid hne
          have HR6 := Lib.hid ((HR.out.on HB6.out).on (below_alloc w6 (.cells #[] 36)))
          clear hZ cc3 hne
          go_wp2_with (at_builtin; refine wp_app_trips 22 36 rfl (.tmp 52) (.tmp 53) rfl Try.underlying22 infoTask (w6.alloc (.cells #[] 36)) w6.heap.size (.slice (some ⟨w6.heap.size, 0, none⟩) 0 0) [] L (some ⟨bb, o, none⟩) c rfl (by rw [hn]; rfl) (OwnT.empty w6 _) HR6.out HNE.out (by decide) (by omega) (by simp) ?_; intro v7 w7 hO7 hB7 _ _; rw [List.nil_append] at hO7; obtain ⟨g, c7, rfl, hg1, hg2, hcl, hfr⟩ := hO7.shape HNE.out; have HO7 := Lib.hid hO7; have HB7 := Lib.hid ((below_alloc w6 (.cells #[] 36)).trans hB7); have cg := hcl x (by rw [hn]; exact hxn); have fg := hfr (x * 3 + 2); have ct := (HB7.out.cell (p := ⟨bb, o + x * 3 + 2, none⟩) (World.block_lt_of_cell? _ _ cc4)).trans cc4; rw [hn]; clear hO7 hB7 hcl hfr)
          have hm0 : 0 ≤ y2 / 2 % Z := Int.emod_nonneg _ (by omega)
          have hm1 : y2 / 2 % Z < Z := Int.emod_lt_of_pos _ (by omega)
          have ev : wrap64 (1 + y2 / 2 % Z) = 1 + y2 / 2 % Z := IntWalk.wrap64_in _ (by omega)
          rw [ev]
          clear ev
          obtain ⟨VV, hVV⟩ : ∃ VV : Int, VV = 1 + y2 / 2 % Z := ⟨_, rfl⟩
          rw [← hVV]
          have hO8 := HO7.out.setT x 2 VV (by rw [hn]; exact hxn) (by omega)
          have hWT : L.set x (if 2 = 0 then VV else ta L x, if 2 = 1 then VV else tb L x, if 2 = 2 then VV else tc L x) = workT L x VV := by simp [workT]
          rw [hWT] at hO8
          have hwl := workT_len L x VV
          have HBW := Lib.hid ((HB6.out.trs HB7.out).setCell (p := ⟨g, x * 3 + 2, none⟩) (by show w.heap.size ≤ g; have := HB6.out.size; omega) (.int .i64 VV))
          have HLQ := Lib.hid (HLP.out (some ⟨g, 0, none⟩) c7 (workT L x VV) _ HBW.out hO8.rdS (HLW.out VV (by omega) (by have := HZE.out; omega)))
          unfold LessP at HLQ
          rw [hwl, hn] at HLQ
          clear hO8 hWT hwl hm0 hm1 hVV cg fg ct cc4
          generalize World.setCell w7 ⟨g, x * 3 + 2, none⟩ (.int .i64 VV) = W8 at *
          obtain ⟨d1, d2, m1, m2, f1, f2, s1, s2, hdd, hss, hmf, HT1, HT2, HT3, HT4, HT5, HT6⟩ := HLQ.out
          have HT1 := Lib.hid HT1
          have HT2 := Lib.hid HT2
          have HT3 := Lib.hid HT3
          have HT4 := Lib.hid HT4
          have HT5 := Lib.hid HT5
          have HT6 := Lib.hid HT6
          have hss2 : decide (s1 ≤ s2) = true := by rw [decide_eq_true_eq]; exact hss
          rcases (show (d1 = false ∧ d2 = false) ∨ (d1 = false ∧ d2 = true) ∨ (d1 = true ∧ d2 = true) by cases d1 <;> cases d2 <;> simp_all) with ⟨rfl, rfl⟩ | ⟨rfl, rfl⟩ | ⟨rfl, rfl⟩
          all_goals
            clear hdd hss
            rcases hmf with hf1 | ⟨rfl, rfl, hm12⟩
            · have hf2 : (f1 != 0) = true := by rw [bne, hf1]; rfl
              go_wp2_with (first
                | (have := p1; go_at_call 24; refine (HT2.out _ q1).mono ?_; rintro e p2 ⟨rfl, q2⟩; have q2 := q1.trs q2)
                | (go_at_call 24; refine (HT1.out _ (Below.refl _ _)).mono ?_; rintro e p1 ⟨rfl, q1⟩)
                | (have := p3; go_at_call 29; refine (HT4.out _ q3).mono ?_; rintro e p4 ⟨rfl, q4⟩; have q4 := q3.trs q4)
                | (go_at_call 29; refine (HT3.out _ q2).mono ?_; rintro e p3 ⟨rfl, q3⟩; have q3 := q2.trs q3)
                | (have := p5; go_at_call 18; refine (HT6.out _ q5).mono ?_; rintro e p6 ⟨rfl, q6⟩; have q6 := q5.trs q6)
                | (go_at_call 18; refine (HT5.out _ q4).mono ?_; rintro e p5 ⟨rfl, q5⟩; have q5 := q4.trs q5)
                | (go_at_call 15; refine (Sane_any _).mono ?_; rintro e p7 ⟨rfl, q7⟩))
              go_ret
              exact ⟨ret_bool (by first | rfl | simp), (HBW.out.trs q6).trs q7⟩
            · have hf2 : decide (m2 ≤ m1) = true := by rw [decide_eq_true_eq]; exact hm12
              clear hm12
              go_wp2_with (first
                | (have := p1; go_at_call 24; refine (HT2.out _ q1).mono ?_; rintro e p2 ⟨rfl, q2⟩; have q2 := q1.trs q2)
                | (go_at_call 24; refine (HT1.out _ (Below.refl _ _)).mono ?_; rintro e p1 ⟨rfl, q1⟩)
                | (have := p3; go_at_call 29; refine (HT4.out _ q3).mono ?_; rintro e p4 ⟨rfl, q4⟩; have q4 := q3.trs q4)
                | (go_at_call 29; refine (HT3.out _ q2).mono ?_; rintro e p3 ⟨rfl, q3⟩; have q3 := q2.trs q3)
                | (have := p5; go_at_call 18; refine (HT6.out _ q5).mono ?_; rintro e p6 ⟨rfl, q6⟩; have q6 := q5.trs q6)
                | (go_at_call 18; refine (HT5.out _ q4).mono ?_; rintro e p5 ⟨rfl, q5⟩; have q5 := q4.trs q5)
                | (go_at_call 15; refine (Sane_any _).mono ?_; rintro e p7 ⟨rfl, q7⟩))
              go_ret
              exact ⟨ret_bool (by first | rfl | simp), (HBW.out.trs q6).trs q7⟩
        · have hp2 : (y2 % 2 == 1) = false := by rw [beq_eq_false_iff_ne]; exact hp
          clear hp
          by_cases hd0 : (dropT L x).length = 0
          · have hd1 : (((dropT L x).length : Int) == 0) = true := by rw [hd0]; rfl
            clear hd0
            obtain ⟨Z, hZ⟩ : ∃ Z : Int, Z = tc L x := ⟨_, rfl⟩
            have cc4 := (HB6.out.cell (p := ⟨bb, o + x * 3 + 2, none⟩) hbb).trans cc3
            rw [← hZ] at cc4
            have hz1 := HZ.out.1
            have hz2 := HZ.out.2
            rw [← hZ] at hz1 hz2
            have HZE := Lib.hid hZ
            have hne : L ≠ [] := fun h => by rw [h] at hn; simp at hn; omega
            have HNE := Lib.hid hne
            have HR6 := Lib.hid ((HR.out.on HB6.out).on (below_alloc w6 (.cells #[] 36)))
            clear hZ cc3 hne
            go_wp2_with (at_builtin; refine wp_app_trips 22 36 rfl (.tmp 52) (.tmp 53) rfl Try.underlying22 infoTask (w6.alloc (.cells #[] 36)) w6.heap.size (.slice (some ⟨w6.heap.size, 0, none⟩) 0 0) [] L (some ⟨bb, o, none⟩) c rfl (by rw [hn]; rfl) (OwnT.empty w6 _) HR6.out HNE.out (by decide) (by omega) (by simp) ?_; intro v7 w7 hO7 hB7 _ _; rw [List.nil_append] at hO7; obtain ⟨g, c7, rfl, hg1, hg2, hcl, hfr⟩ := hO7.shape HNE.out; have HO7 := Lib.hid hO7; have HB7 := Lib.hid ((below_alloc w6 (.cells #[] 36)).trans hB7); have cg := hcl x (by rw [hn]; exact hxn); have fg := hfr (x * 3 + 2); have ct := (HB7.out.cell (p := ⟨bb, o + x * 3 + 2, none⟩) (World.block_lt_of_cell? _ _ cc4)).trans cc4; rw [hn]; clear hO7 hB7 hcl hfr)
            have hm0 : 0 ≤ y2 / 2 % Z := Int.emod_nonneg _ (by omega)
            have hm1 : y2 / 2 % Z < Z := Int.emod_lt_of_pos _ (by omega)
            have ev : wrap64 (1 + y2 / 2 % Z) = 1 + y2 / 2 % Z := IntWalk.wrap64_in _ (by omega)
            rw [ev]
            clear ev
            obtain ⟨VV, hVV⟩ : ∃ VV : Int, VV = 1 + y2 / 2 % Z := ⟨_, rfl⟩
            rw [← hVV]
            have hO8 := HO7.out.setT x 2 VV (by rw [hn]; exact hxn) (by omega)
            have hWT : L.set x (if 2 = 0 then VV else ta L x, if 2 = 1 then VV else tb L x, if 2 = 2 then VV else tc L x) = workT L x VV := by simp [workT]
            rw [hWT] at hO8
            have hwl := workT_len L x VV
            have HBW := Lib.hid ((HB6.out.trs HB7.out).setCell (p := ⟨g, x * 3 + 2, none⟩) (by show w.heap.size ≤ g; have := HB6.out.size; omega) (.int .i64 VV))
            have HLQ := Lib.hid (HLP.out (some ⟨g, 0, none⟩) c7 (workT L x VV) _ HBW.out hO8.rdS (HLW.out VV (by omega) (by have := HZE.out; omega)))
            unfold LessP at HLQ
            rw [hwl, hn] at HLQ
            clear hO8 hWT hwl hm0 hm1 hVV cg fg ct cc4
            generalize World.setCell w7 ⟨g, x * 3 + 2, none⟩ (.int .i64 VV) = W8 at *
            obtain ⟨d1, d2, m1, m2, f1, f2, s1, s2, hdd, hss, hmf, HT1, HT2, HT3, HT4, HT5, HT6⟩ := HLQ.out
            have HT1 := Lib.hid HT1
            have HT2 := Lib.hid HT2
            have HT3 := Lib.hid HT3
            have HT4 := Lib.hid HT4
            have HT5 := Lib.hid HT5
            have HT6 := Lib.hid HT6
            have hss2 : decide (s1 ≤ s2) = true := by rw [decide_eq_true_eq]; exact hss
            rcases (show (d1 = false ∧ d2 = false) ∨ (d1 = false ∧ d2 = true) ∨ (d1 = true ∧ d2 = true) by cases d1 <;> cases d2 <;> simp_all) with ⟨rfl, rfl⟩ | ⟨rfl, rfl⟩ | ⟨rfl, rfl⟩
            all_goals
              clear hdd hss
              rcases hmf with hf1 | ⟨rfl, rfl, hm12⟩
              · have hf2 : (f1 != 0) = true := by rw [bne, hf1]; rfl
                go_wp2_with (first
                  | (have := p1; go_at_call 24; refine (HT2.out _ q1).mono ?_; rintro e p2 ⟨rfl, q2⟩; have q2 := q1.trs q2)
                  | (go_at_call 24; refine (HT1.out _ (Below.refl _ _)).mono ?_; rintro e p1 ⟨rfl, q1⟩)
                  | (have := p3; go_at_call 29; refine (HT4.out _ q3).mono ?_; rintro e p4 ⟨rfl, q4⟩; have q4 := q3.trs q4)
                  | (go_at_call 29; refine (HT3.out _ q2).mono ?_; rintro e p3 ⟨rfl, q3⟩; have q3 := q2.trs q3)
                  | (have := p5; go_at_call 18; refine (HT6.out _ q5).mono ?_; rintro e p6 ⟨rfl, q6⟩; have q6 := q5.trs q6)
                  | (go_at_call 18; refine (HT5.out _ q4).mono ?_; rintro e p5 ⟨rfl, q5⟩; have q5 := q4.trs q5)
                  | (go_at_call 15; refine (Sane_any _).mono ?_; rintro e p7 ⟨rfl, q7⟩))
                go_ret
                exact ⟨ret_bool (by first | rfl | simp), (HBW.out.trs q6).trs q7⟩
              · have hf2 : decide (m2 ≤ m1) = true := by rw [decide_eq_true_eq]; exact hm12
                clear hm12
                go_wp2_with (first
                  | (have := p1; go_at_call 24; refine (HT2.out _ q1).mono ?_; rintro e p2 ⟨rfl, q2⟩; have q2 := q1.trs q2)
                  | (go_at_call 24; refine (HT1.out _ (Below.refl _ _)).mono ?_; rintro e p1 ⟨rfl, q1⟩)
                  | (have := p3; go_at_call 29; refine (HT4.out _ q3).mono ?_; rintro e p4 ⟨rfl, q4⟩; have q4 := q3.trs q4)
                  | (go_at_call 29; refine (HT3.out _ q2).mono ?_; rintro e p3 ⟨rfl, q3⟩; have q3 := q2.trs q3)
                  | (have := p5; go_at_call 18; refine (HT6.out _ q5).mono ?_; rintro e p6 ⟨rfl, q6⟩; have q6 := q5.trs q6)
                  | (go_at_call 18; refine (HT5.out _ q4).mono ?_; rintro e p5 ⟨rfl, q5⟩; have q5 := q4.trs q5)
                  | (go_at_call 15; refine (Sane_any _).mono ?_; rintro e p7 ⟨rfl, q7⟩))
                go_ret
                exact ⟨ret_bool (by first | rfl | simp), (HBW.out.trs q6).trs q7⟩
          · have hd1 : (((dropT L x).length : Int) == 0) = false := by rw [beq_eq_false_iff_ne]; omega
            have HLQ := Lib.hid (HLP.out A8 c8 (dropT L x) w6 HB6.out HR8.out (HLD.out (by omega)))
            have HBW := Lib.hid HB6.out
            unfold LessP at HLQ
            clear hd0
            generalize (dropT L x).length = nd at *
            obtain ⟨d1, d2, m1, m2, f1, f2, s1, s2, hdd, hss, hmf, HT1, HT2, HT3, HT4, HT5, HT6⟩ := HLQ.out
            have HT1 := Lib.hid HT1
            have HT2 := Lib.hid HT2
            have HT3 := Lib.hid HT3
            have HT4 := Lib.hid HT4
            have HT5 := Lib.hid HT5
            have HT6 := Lib.hid HT6
            have hss2 : decide (s1 ≤ s2) = true := by rw [decide_eq_true_eq]; exact hss
            rcases (show (d1 = false ∧ d2 = false) ∨ (d1 = false ∧ d2 = true) ∨ (d1 = true ∧ d2 = true) by cases d1 <;> cases d2 <;> simp_all) with ⟨rfl, rfl⟩ | ⟨rfl, rfl⟩ | ⟨rfl, rfl⟩
            all_goals
              clear hdd hss
              rcases hmf with hf1 | ⟨rfl, rfl, hm12⟩
              · have hf2 : (f1 != 0) = true := by rw [bne, hf1]; rfl
                go_wp2_with (first
                  | (have := p1; go_at_call 24; refine (HT2.out _ q1).mono ?_; rintro e p2 ⟨rfl, q2⟩; have q2 := q1.trs q2)
                  | (go_at_call 24; refine (HT1.out _ (Below.refl _ _)).mono ?_; rintro e p1 ⟨rfl, q1⟩)
                  | (have := p3; go_at_call 29; refine (HT4.out _ q3).mono ?_; rintro e p4 ⟨rfl, q4⟩; have q4 := q3.trs q4)
                  | (go_at_call 29; refine (HT3.out _ q2).mono ?_; rintro e p3 ⟨rfl, q3⟩; have q3 := q2.trs q3)
                  | (have := p5; go_at_call 18; refine (HT6.out _ q5).mono ?_; rintro e p6 ⟨rfl, q6⟩; have q6 := q5.trs q6)
                  | (go_at_call 18; refine (HT5.out _ q4).mono ?_; rintro e p5 ⟨rfl, q5⟩; have q5 := q4.trs q5)
                  | (go_at_call 15; refine (Sane_any _).mono ?_; rintro e p7 ⟨rfl, q7⟩))
                go_ret
                exact ⟨ret_bool (by first | rfl | simp), (HBW.out.trs q6).trs q7⟩
              · have hf2 : decide (m2 ≤ m1) = true := by rw [decide_eq_true_eq]; exact hm12
                clear hm12
                go_wp2_with (first
                  | (have := p1; go_at_call 24; refine (HT2.out _ q1).mono ?_; rintro e p2 ⟨rfl, q2⟩; have q2 := q1.trs q2)
                  | (go_at_call 24; refine (HT1.out _ (Below.refl _ _)).mono ?_; rintro e p1 ⟨rfl, q1⟩)
                  | (have := p3; go_at_call 29; refine (HT4.out _ q3).mono ?_; rintro e p4 ⟨rfl, q4⟩; have q4 := q3.trs q4)
                  | (go_at_call 29; refine (HT3.out _ q2).mono ?_; rintro e p3 ⟨rfl, q3⟩; have q3 := q2.trs q3)
                  | (have := p5; go_at_call 18; refine (HT6.out _ q5).mono ?_; rintro e p6 ⟨rfl, q6⟩; have q6 := q5.trs q6)
                  | (go_at_call 18; refine (HT5.out _ q4).mono ?_; rintro e p5 ⟨rfl, q5⟩; have q5 := q4.trs q5)
                  | (go_at_call 15; refine (Sane_any _).mono ?_; rintro e p7 ⟨rfl, q7⟩))
                go_ret
                exact ⟨ret_bool (by first | rfl | simp), (HBW.out.trs q6).trs q7⟩
  · have hd : decide ((40 : Int) < L.length) = true := by simp; omega
    clear hcap
    go_enter Try.func9, Try.ntmps9
    go_wp2_with (first
      | (go_at_call 14; refine (Long_any _ _ _ _).mono ?_; rintro e w' ⟨rfl, rfl⟩)
      | (go_at_call 15; refine (Sane_any _).mono ?_; rintro e w10 ⟨rfl, h10⟩))
    go_ret
    exact ⟨rfl, h10⟩
end Go.Proofs.Ytdafiblnanpiiaa
