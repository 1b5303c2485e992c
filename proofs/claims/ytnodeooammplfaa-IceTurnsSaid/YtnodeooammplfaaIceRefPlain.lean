/- The walk over the reference's Plain. -/
import Derived.Test.YtnodeooammplfaaIcePlainW
namespace Go.Proofs.Ytnodeooammplfaa
open Go.RowKit

set_option maxRecDepth 100000 in
set_option maxHeartbeats 1000000 in
theorem refPlain_any (A : Option Addr) (c : Nat) (L : List (Int × Int)) (w : World) (hr : RdP w w.heap.size A L) (hl : L.length ≤ 1125899906842624) :
    Calls Try.prog 30 #[.slice A L.length c] w (IceRet (PL L) (gate (vld L) true) w) := by
  have HV := Lib.hid (refValid_any A c L w hr hl)
  cases hv : vld L
  · have HE : Hid (∀ w', Below w.heap.size w w' → IceRet (PL L) (gate (vld L) true) w (.returned (.tuple #[.slice none 0 0, .int .i64 40])) w') := fun w' hb => iceRet_no hv (by simp [PL, hv]) hb
    rw [hv] at HV HE
    clear hr hv
    go_enter Try.func30, Try.ntmps30
    go_wp2_with (go_at_call 21; refine HV.out.mono ?_; rintro e w' ⟨rfl, rfl⟩)
    go_ret2
    exact HE.out _ (Below.refl _ _)
  · have HE : Hid (∀ v w', OwnP w' w.heap.size 55 v (plain L) → Below w.heap.size w w' → IceRet (PL L) (gate (vld L) true) w (.returned (.tuple #[v, .int .i64 0])) w') := fun v w' ho hb => iceRet_ok hv (by simp only [PL, hv, if_true]; exact ho) hb
    have HO := Lib.hid (okL_of_vld hv)
    have HR := Lib.hid hr
    have hn20 := (okL_of_vld hv).1
    have hn1 := (vld_spec hv).1
    rw [hv] at HV HE
    clear hr hv
    go_enter Try.func30, Try.ntmps30
    go_wp2_with (go_at_call 21; refine HV.out.mono ?_; rintro e w' ⟨rfl, rfl⟩)
    go_loopg [4, 5] L.length (fun k v s wr => ∃ i : Nat, s = .int .i64 i ∧ i ≤ L.length ∧ L.length - i ≤ k ∧ Below w.heap.size w wr ∧ OwnP wr w.heap.size 55 v (plain (L.take i)))
    case atStart => exact ⟨0, rfl, by omega, by omega, Below.refl _ _, OwnP.nil _ _ _⟩
    case round =>
      obtain ⟨i, rfl, hi, hk, hB, hO⟩ := hrel
      by_cases hlt : i < L.length
      · obtain ⟨b, o, rfl, hb, c1, c2⟩ := HR.out.at_ (k := i) hlt
        have hbd := HO.out.2 i hlt
        have hth := plain_thick HO.out i hi
        have hln := plain_len L i hi
        have HPS := Lib.hid (plain_succ L i hlt)
        have hltI : (i : Int) < (L.length : Int) := by omega
        have hi0 : (0 : Int) ≤ (i : Int) := by omega
        rw [← hB.cell hb] at c1 c2
        rcases Nat.eq_zero_or_pos i with h0 | hpos
        · subst h0
          rw [show plain (L.take 0) = [] from rfl] at hO HPS
          have HO1 := Lib.hid hO
          obtain ⟨A', c', rfl, _⟩ := hO.rd
          clear hO hth hln
          simp only [Nat.zero_mul, Nat.add_zero] at c1 c2
          go_wp2_with fail
          go_quiet (fail)
          have hbx2 : Box ((wr.alloc (.cells #[.int .i64 (pa L 0), .int .i64 (pb L 0)] 55)).drewN nq) wr.heap.size 55 #[.int .i64 (pa L 0), .int .i64 (pb L 0)] := Box.new _ _ _
          have HBX := Lib.hid hbx2; clear hbx2
          go_wp2_with (at_builtin; refine wp_app_pair' 22 55 rfl (.tmp 50) (.tmp 55) rfl Try.underlying22 infoLayer _ w.heap.size wr.heap.size _ [] (pa L 0) (pb L 0) rfl rfl (HO1.out.kept ((below_alloc _ _).drewsN _)) HBX.out (by simp) (by simp; have := hB.size; omega) ?_; intro v' w' hO3 hB3 _)
          go_roundg (L.length - (0 + 1))
          case measure => omega
          case rel => exact ⟨0 + 1, by go_num, by omega, by omega, hB.trans (((below_alloc _ _).drewsN _ |>.mono hB.size).trans hB3), by rw [HPS.out, plStep_new (.inl rfl)]; exact hO3⟩
        · obtain ⟨j, rfl⟩ : ∃ j, i = j + 1 := ⟨i - 1, by omega⟩
          have h00 := plain_ne L j (by omega)
          have hla := plain_last L j (by omega)
          obtain ⟨b', o', he, _, c1j, c2j⟩ := HR.out.at_ (k := j) (by omega)
          injection he with he
          injection he with e1 e2 _
          subst e1; subst e2
          rw [← hB.cell hb] at c1j c2j
          generalize plain (L.take (j + 1)) = out at *
          rcases hO.form with ⟨_, h01⟩ | ⟨g, cc, rfl, hg1, hg2, hg3, _, hcells, hfz⟩
          · exact absurd h01 h00
          obtain ⟨m, hm⟩ : ∃ m, out.length = m + 1 := ⟨out.length - 1, by have := List.length_pos_iff.2 h00; omega⟩
          obtain ⟨d1, d2⟩ := hcells m (by omega)
          have f1 := hfz (m * 2)
          have hw1 : IntKind.i64.wrap (m : Int) = (m : Int) := IntWalk.i64_in _ (by omega)
          have hwj : IntKind.i64.wrap (j : Int) = (j : Int) := IntWalk.i64_in _ (by omega)
          have hmi : (m : Int) < (m : Int) + 1 := by omega
          have hm0 : (0 : Int) ≤ (m : Int) := by omega
          have hmp : (0 : Int) < (m : Int) + 1 := by omega
          have hjp : (0 : Int) < (j : Int) + 1 := by omega
          have hjl : (j : Int) < (L.length : Int) := by omega
          have hj0 : (0 : Int) ≤ (j : Int) := by omega
          have hjl2 : (j : Int) + 1 < (L.length : Int) := by omega
          have hm20 : m ≤ 20 := by omega
          rw [show out.length - 1 = m by omega] at hth hla
          have HH := Lib.hid (And.intro hm (And.intro h00 hla))
          have HO1 := Lib.hid hO
          rw [hm]
          clear hO hcells hfz h00 hm hla
          cases hbq : (pb L j == pb L (j + 1))
          · have HQ := Lib.hid hbq
            go_wp2_with fail
            go_quiet (fail)
            have hbx2 : Box ((wr.alloc (.cells #[.int .i64 (pa L (j + 1)), .int .i64 (pb L (j + 1))] 55)).drewN nq) wr.heap.size 55 #[.int .i64 (pa L (j + 1)), .int .i64 (pb L (j + 1))] := Box.new _ _ _
            have HBX := Lib.hid hbx2; clear hbx2
            have hO2 : OwnP ((wr.alloc (.cells #[.int .i64 (pa L (j + 1)), .int .i64 (pb L (j + 1))] 55)).drewN nq) w.heap.size 55 (.slice (some ⟨g, 0, none⟩) (m + 1) cc) out := by
              rw [← HH.out.1]; exact HO1.out.kept ((below_alloc _ _).drewsN _)
            have HO2 := Lib.hid hO2; clear hO2
            go_wp2_with (at_builtin; refine wp_app_pair' 22 55 rfl (.tmp 50) (.tmp 55) rfl Try.underlying22 infoLayer _ w.heap.size wr.heap.size _ out (pa L (j + 1)) (pb L (j + 1)) rfl rfl HO2.out HBX.out (by rw [HH.out.1]; omega) (by simp; have := hB.size; omega) ?_; intro v' w' hO3 hB3 _)
            go_roundg (L.length - (j + 1 + 1))
            case measure => omega
            case rel => exact ⟨j + 1 + 1, by go_num, by omega, by omega, hB.trans (((below_alloc _ _).drewsN _ |>.mono hB.size).trans hB3), by rw [HPS.out, plStep_new (.inr (by rw [HH.out.1, Nat.add_sub_cancel, HH.out.2.2]; simpa using HQ.out))]; exact hO3⟩
          · have HQ := Lib.hid hbq
            have hws : IntKind.i64.wrap (pa out m + pa L (j + 1)) = pa out m + pa L (j + 1) := IntWalk.i64_in _ (by omega)
            go_wp2_with fail
            go_quiet (fail)
            go_wp2_with fail
            go_region
            all_goals
              go_wp2_with fail
              have hpl : plStep out (pa L (j + 1), pb L (j + 1)) = out.set m (pa out m + pa L (j + 1), pb out m) := by
                rw [plStep_more HH.out.2.1 (by rw [HH.out.1, Nat.add_sub_cancel, HH.out.2.2]; simpa using HQ.out), HH.out.1, Nat.add_sub_cancel]
              have hset := OwnP.setA (HO1.out.kept (Below.drewsN (Below.refl _ _) (nq + 1))) m (pa out m + pa L (j + 1))
              rw [HH.out.1] at hset
              go_roundg (L.length - (j + 1 + 1))
              case measure => omega
              case rel => exact ⟨j + 1 + 1, by go_num, by omega, by omega, (hB.drewsN _).setCell (p := ⟨_, _, none⟩) hg1 _, by rw [HPS.out, hpl]; exact hset⟩
      · obtain rfl : i = L.length := by omega
        go_wp2
        go_ret2
        rw [List.take_of_length_le (Nat.le_refl _)] at hO
        exact HE.out _ _ hO hB
end Go.Proofs.Ytnodeooammplfaa
