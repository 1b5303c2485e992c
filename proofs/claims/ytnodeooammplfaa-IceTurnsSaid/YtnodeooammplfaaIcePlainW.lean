/- The walks over Plain and its reference. -/
import Derived.Test.YtnodeooammplfaaIcePlain
import Derived.Test.YtnodeooammplfaaLib2
import Derived.BigRegion
namespace Go.Proofs.Ytnodeooammplfaa
open Go.RowKit

set_option maxRecDepth 100000 in
set_option maxHeartbeats 1000000 in
theorem Plain_any (A : Option Addr) (c : Nat) (L : List (Int × Int)) (w : World) (hr : RdP w w.heap.size A L) (hl : L.length ≤ 1125899906842624) :
    Calls Try.prog 29 #[.slice A L.length c] w (IceRet (PL L) (gate (vld L) true) w) := by
  have HV := Lib.hid (Valid_any A c L w hr hl)
  cases hv : vld L
  · have HE : Hid (∀ w', Below w.heap.size w w' → IceRet (PL L) (gate (vld L) true) w (.returned (.tuple #[.slice none 0 0, .int .i64 40])) w') := fun w' hb => iceRet_no hv (by simp [PL, hv]) hb
    rw [hv] at HV HE
    clear hr hv
    go_enter Try.func29, Try.ntmps29
    go_wp2_with (go_at_call 20; refine HV.out.mono ?_; rintro e w1 ⟨rfl, h1⟩)
    go_ret2
    exact HE.out _ h1
  · have HE : Hid (∀ v w', OwnP w' w.heap.size 55 v (plain L) → Below w.heap.size w w' → IceRet (PL L) (gate (vld L) true) w (.returned (.tuple #[v, .int .i64 0])) w') := fun v w' ho hb => iceRet_ok hv (by simp only [PL, hv, if_true]; exact ho) hb
    have HO := Lib.hid (okL_of_vld hv)
    have HR := Lib.hid hr
    have hn20 := (okL_of_vld hv).1
    have hn1 := (vld_spec hv).1
    rw [hv] at HV HE
    clear hr hv
    go_enter Try.func29, Try.ntmps29
    go_wp2_with (go_at_call 20; refine HV.out.mono ?_; rintro e w1 ⟨rfl, h1⟩)
    go_loopg [4, 13] L.length (fun k v s wr => ∃ i : Nat, s = .int .i64 i ∧ i ≤ L.length ∧ L.length - i ≤ k ∧ Below w.heap.size w wr ∧ OwnP wr w.heap.size 55 v (plain (L.take i)))
    case atStart => exact ⟨0, rfl, by omega, by omega, h1, OwnP.nil _ _ _⟩
    case round =>
      obtain ⟨i, rfl, hi, hk, hB, hO⟩ := hrel
      by_cases hlt : i < L.length
      · obtain ⟨b, o, rfl, hb, c1, c2⟩ := HR.out.at_ (k := i) hlt
        have hbd := HO.out.2 i hlt
        have hth := plain_thick HO.out i hi
        have hln := plain_len L i hi
        have hps := plain_succ L i hlt
        have HPS := Lib.hid hps; clear hps
        rw [← hB.cell hb] at c1 c2
        have hO1 := hO.kept (below_alloc wr (.cells #[.int .i64 (pa L i), .int .i64 (pb L i)] 55))
        have hB1 := hB.trans ((below_alloc wr (.cells #[.int .i64 (pa L i), .int .i64 (pb L i)] 55)).mono hB.size)
        have hbxn : Box (wr.alloc (.cells #[.int .i64 (pa L i), .int .i64 (pb L i)] 55)) wr.heap.size 55 #[.int .i64 (pa L i), .int .i64 (pb L i)] := Box.new _ _ _
        generalize plain (L.take i) = out at *
        by_cases h00 : out = []
        · subst h00
          obtain ⟨A', c', rfl, _⟩ := hO.rd
          clear hO
          have hB1s := hB1.size
          have HB1 := Lib.hid hB1; clear hB1
          go_wp2_with fail
          go_quiet (fail)
          have hO2 : OwnP (((wr.alloc (.cells #[.int .i64 (pa L i), .int .i64 (pb L i)] 55)).alloc (.cells #[.int .i64 (pa L i), .int .i64 (pb L i)] 55)).drewN nq) w.heap.size 55 (.slice A' 0 c') [] := hO1.kept ((below_alloc _ _).drewsN _)
          have hbx2 : Box (((wr.alloc (.cells #[.int .i64 (pa L i), .int .i64 (pb L i)] 55)).alloc (.cells #[.int .i64 (pa L i), .int .i64 (pb L i)] 55)).drewN nq) (wr.heap.size + 1) 55 #[.int .i64 (pa L i), .int .i64 (pb L i)] := by
            have := Box.new (wr.alloc (.cells #[.int .i64 (pa L i), .int .i64 (pb L i)] 55)) 55 #[.int .i64 (pa L i), .int .i64 (pb L i)]
            rw [World.size_alloc] at this
            exact this
          have HBX := Lib.hid hbx2; clear hbx2
          go_wp2_with (at_builtin; refine wp_app_pair' 22 55 rfl (.tmp 43) (.tmp 45) rfl Try.underlying22 infoLayer _ w.heap.size (wr.heap.size + 1) _ [] (pa L i) (pb L i) rfl rfl hO2 HBX.out (by simp) (by simp; have := hB.size; omega) ?_; intro v' w' hO3 hB3 _)
          go_roundg (L.length - (i + 1))
          case measure => omega
          case rel => exact ⟨i + 1, by go_num, by omega, by omega, HB1.out.trans (((below_alloc _ _).drewsN _ |>.mono HB1.out.size).trans hB3), by rw [HPS.out, plStep_new (.inl rfl)]; exact hO3⟩
        · rcases hO.form with ⟨_, h01⟩ | ⟨g, cc, rfl, hg1, hg2, hg3, _, hcells, hfz⟩
          · exact absurd h01 h00
          obtain ⟨m, hm⟩ : ∃ m, out.length = m + 1 := ⟨out.length - 1, by have := List.length_pos_iff.2 h00; omega⟩
          obtain ⟨d1, d2⟩ := hcells m (by omega)
          have f1 := hfz (m * 2)
          have hw1 : IntKind.i64.wrap (m : Int) = (m : Int) := IntWalk.i64_in _ (by omega)
          have hmi : (m : Int) < (m : Int) + 1 := by omega
          have hm0 : (0 : Int) ≤ (m : Int) := by omega
          have hmp : (0 : Int) < (m : Int) + 1 := by omega
          rw [show out.length - 1 = m by omega] at hth
          have hm20 : m ≤ 20 := by omega
          have HH := Lib.hid (And.intro hm h00)
          have HB1 := Lib.hid hB1
          have HO1 := Lib.hid hO1
          rw [hm]
          clear hO hB1 hO1 hcells hfz h00 hbxn hm
          cases hbq : (pb out m == pb L i)
          · have HQ := Lib.hid hbq
            go_wp2_with fail
            go_quiet (fail)
            have hbx2 : Box (((wr.alloc (.cells #[.int .i64 (pa L i), .int .i64 (pb L i)] 55)).alloc (.cells #[.int .i64 (pa L i), .int .i64 (pb L i)] 55)).drewN nq) (wr.heap.size + 1) 55 #[.int .i64 (pa L i), .int .i64 (pb L i)] := by
              have := Box.new (wr.alloc (.cells #[.int .i64 (pa L i), .int .i64 (pb L i)] 55)) 55 #[.int .i64 (pa L i), .int .i64 (pb L i)]
              rw [World.size_alloc] at this
              exact this
            have HBX := Lib.hid hbx2; clear hbx2
            have hO2 : OwnP (((wr.alloc (.cells #[.int .i64 (pa L i), .int .i64 (pb L i)] 55)).alloc (.cells #[.int .i64 (pa L i), .int .i64 (pb L i)] 55)).drewN nq) w.heap.size 55 (.slice (some ⟨g, 0, none⟩) (m + 1) cc) out := by
              rw [← HH.out.1]; exact HO1.out.kept ((below_alloc _ _).drewsN _)
            have HO2 := Lib.hid hO2; clear hO2
            go_wp2_with (at_builtin; refine wp_app_pair' 22 55 rfl (.tmp 43) (.tmp 45) rfl Try.underlying22 infoLayer _ w.heap.size (wr.heap.size + 1) _ out (pa L i) (pb L i) rfl rfl HO2.out HBX.out (by rw [HH.out.1]; omega) (by simp; have := hB.size; omega) ?_; intro v' w' hO3 hB3 _)
            go_roundg (L.length - (i + 1))
            case measure => omega
            case rel => exact ⟨i + 1, by go_num, by omega, by omega, HB1.out.trans (((below_alloc _ _).drewsN _ |>.mono HB1.out.size).trans hB3), by rw [HPS.out, plStep_new (.inr (by rw [HH.out.1]; simpa using HQ.out))]; exact hO3⟩
          · have HQ := Lib.hid hbq
            have hws : IntKind.i64.wrap (pa out m + pa L i) = pa out m + pa L i := IntWalk.i64_in _ (by omega)
            go_wp2_with fail
            go_quiet (fail)
            go_wp2_with fail
            go_region
            all_goals
              go_wp2_with fail
              have hpl : plStep out (pa L i, pb L i) = out.set m (pa out m + pa L i, pb out m) := by
                rw [plStep_more HH.out.2 (by rw [HH.out.1]; simpa using HQ.out), HH.out.1, Nat.add_sub_cancel]
              have hset := OwnP.setA (HO1.out.kept (Below.drewsN (Below.refl _ _) (nq + 1))) m (pa out m + pa L i)
              rw [HH.out.1] at hset
              go_roundg (L.length - (i + 1))
              case measure => omega
              case rel => exact ⟨i + 1, by go_num, by omega, by omega, (HB1.out.drewsN _).setCell (p := ⟨_, _, none⟩) hg1 _, by rw [HPS.out, hpl]; exact hset⟩
      · obtain rfl : i = L.length := by omega
        go_wp2
        go_ret2
        rw [List.take_of_length_le (Nat.le_refl _)] at hO
        exact HE.out _ _ hO hB
end Go.Proofs.Ytnodeooammplfaa
