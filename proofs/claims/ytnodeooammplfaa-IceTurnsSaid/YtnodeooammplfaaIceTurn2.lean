/- The walks over Turned, its reference and sameIce. -/
import Derived.Test.YtnodeooammplfaaIceTurn
namespace Go.Proofs.Ytnodeooammplfaa
open Go.RowKit

theorem OwnP.less {w : World} {B B' : Nat} {e : TypeId} {v : Value} {l : List (Int × Int)} (h : OwnP w B e v l) (hb : B' ≤ B) : OwnP w B' e v l := by
  refine ⟨h.1, ?_⟩
  rcases h.2 with h0 | ⟨g, cap, cur, h1, h2, h3⟩
  · exact .inl h0
  · exact .inr ⟨g, cap, cur, h1, Nat.le_trans hb h2, h3⟩

set_option maxRecDepth 100000 in
theorem Turned_any (A : Option Addr) (c : Nat) (L : List (Int × Int)) (w : World) (hr : RdP w w.heap.size A L) (hl : L.length ≤ 1125899906842624) :
    Calls Try.prog 31 #[.slice A L.length c] w (IceRet (TL L) (gate (vld L) true) w) := by
  have HV := Lib.hid (Valid_any A c L w hr hl)
  cases hv : vld L
  · have HE : Hid (∀ w', Below w.heap.size w w' → IceRet (TL L) (gate (vld L) true) w (.returned (.tuple #[.slice none 0 0, .int .i64 40])) w') := fun w' hb => iceRet_no hv (by simp [TL, hv]) hb
    rw [hv] at HV HE
    clear hr hv
    go_enter Try.func31, Try.ntmps31
    go_wp2_with (go_at_call 20; refine HV.out.mono ?_; rintro e w1 ⟨rfl, h1⟩)
    go_ret2
    exact HE.out _ h1
  · have HE : Hid (∀ v w', OwnP w' w.heap.size 55 v L.reverse → Below w.heap.size w w' → IceRet (TL L) (gate (vld L) true) w (.returned (.tuple #[v, .int .i64 0])) w') := fun v w' ho hb => iceRet_ok hv (by simp only [TL, hv, if_true]; exact ho) hb
    have HR := Lib.hid hr
    have hn1 := (vld_spec hv).1
    have hn2 := (vld_spec hv).2.1
    have HN : Hid (L ≠ []) := by intro h; subst h; simp at hn1
    rw [hv] at HV HE
    clear hr hv
    go_enter Try.func31, Try.ntmps31
    go_wp2_with (first
      | (go_at_call 20; refine HV.out.mono ?_; rintro e w1 ⟨rfl, h1⟩)
      | (go_at_call 72; refine (CloneL_any A c L _ (HR.out.on h1) HN.out (by omega)).mono ?_; rintro e w2 ⟨v, rfl, hO, h2⟩; rcases hO.form with ⟨_, h0⟩ | ⟨g, cc, rfl, -⟩; exact absurd h0 HN.out)
      | (go_at_call 73; refine (ReverseL_any _ g cc L _ hO h2.size (by omega)).mono ?_; rintro e w3 ⟨rfl, hO3, h3⟩))
    go_ret2
    exact HE.out _ _ (hO3.less h1.size) (h1.trans ((h2.trans h3).mono h1.size))

set_option maxRecDepth 100000 in
theorem refTurned_any (A : Option Addr) (c : Nat) (L : List (Int × Int)) (w : World) (hr : RdP w w.heap.size A L) (hl : L.length ≤ 1125899906842624) :
    Calls Try.prog 32 #[.slice A L.length c] w (IceRet (TL L) (gate (vld L) true) w) := by
  have HV := Lib.hid (refValid_any A c L w hr hl)
  cases hv : vld L
  · have HE : Hid (∀ w', Below w.heap.size w w' → IceRet (TL L) (gate (vld L) true) w (.returned (.tuple #[.slice none 0 0, .int .i64 40])) w') := fun w' hb => iceRet_no hv (by simp [TL, hv]) hb
    rw [hv] at HV HE
    clear hr hv
    go_enter Try.func32, Try.ntmps32
    go_wp2_with (go_at_call 21; refine HV.out.mono ?_; rintro e w' ⟨rfl, rfl⟩)
    go_ret2
    exact HE.out _ (Below.refl _ _)
  · have HE : Hid (∀ v w', OwnP w' w.heap.size 55 v L.reverse → Below w.heap.size w w' → IceRet (TL L) (gate (vld L) true) w (.returned (.tuple #[v, .int .i64 0])) w') := fun v w' ho hb => iceRet_ok hv (by simp only [TL, hv, if_true]; exact ho) hb
    have HR := Lib.hid hr
    have hn1 := (vld_spec hv).1
    have hn2 := (vld_spec hv).2.1
    have hw0 : IntKind.i64.wrap ((L.length : Int) - 1) = (L.length : Int) - 1 := IntWalk.i64_in _ (by omega)
    rw [hv] at HV HE
    clear hr hv
    go_enter Try.func32, Try.ntmps32
    go_wp2_with (go_at_call 21; refine HV.out.mono ?_; rintro e w' ⟨rfl, rfl⟩)
    go_loopg [4, 5] L.length (fun k v s wr => ∃ i : Nat, s = .int .i64 ((L.length : Int) - 1 - i) ∧ i ≤ L.length ∧ L.length - i ≤ k ∧ Below w.heap.size w wr ∧ OwnP wr w.heap.size 55 v (L.reverse.take i))
    case atStart => exact ⟨0, by simp, by omega, by omega, Below.refl _ _, OwnP.nil _ _ _⟩
    case round =>
      obtain ⟨i, rfl, hi, hk, hB, hO⟩ := hrel
      generalize hJ : (L.length : Int) - 1 - (i : Int) = J
      have HJ := Lib.hid hJ; clear hJ
      by_cases hlt : (0 : Int) ≤ J
      · obtain ⟨j, hj⟩ : ∃ j : Nat, J = j := ⟨J.toNat, by omega⟩
        subst hj
        have hjn : (j : Int) < (L.length : Int) := by have := HJ.out; omega
        obtain ⟨b, o, rfl, hb, c1, c2⟩ := HR.out.at_ (k := j) (by omega)
        rw [← hB.cell hb] at c1 c2
        have hwj : IntKind.i64.wrap ((j : Int) - 1) = (j : Int) - 1 := IntWalk.i64_in _ (by omega)
        have hlen : (L.reverse.take i).length ≤ 1000000 := by simp; omega
        have HO := Lib.hid hO; clear hO
        go_wp2_with (at_builtin; go_loud (refine wp_app_pair 22 55 rfl (.tmp 16) (.tmp 21) rfl Try.underlying22 infoLayer _ w.heap.size _ (L.reverse.take i) (pa L j) (pb L j) rfl rfl HO.out hlen hB.size ?_; intro v' w' hO3 hB3 _))
        go_roundg (L.length - (i + 1))
        case measure => have := HJ.out; omega
        case rel =>
          have hs : L.reverse.take (i + 1) = L.reverse.take i ++ [(pa L j, pb L j)] := by
            have hil : i < L.reverse.length := by simp; have := HJ.out; omega
            rw [List.take_succ_eq_append_getElem hil, List.getElem_reverse]
            congr 2
            rw [get_pab]
            rw [show L.length - 1 - i = j by have := HJ.out; omega]
          exact ⟨i + 1, by have := HJ.out; go_num, by have := HJ.out; omega, by omega, hB.trans hB3, by rw [hs]; exact hO3⟩
      · go_wp2
        go_ret2
        obtain rfl : i = L.length := by have := HJ.out; omega
        rw [List.take_of_length_le (by simp)] at hO
        exact HE.out _ _ hO hB

theorem sameIce_any (A A' : Option Addr) (c c' : Nat) (L : List (Int × Int)) (w : World) (hr : RdP w w.heap.size A L) (hr' : RdP w w.heap.size A' L) (hl : L.length ≤ 1125899906842624) :
    Calls Try.prog 33 #[.slice A L.length c, .slice A' L.length c'] w fun e w' => e = .returned (.bool true) ∧ Below w.heap.size w w' := by
  have HR := Lib.hid hr; clear hr
  have HR' := Lib.hid hr'; clear hr'
  go_enter Try.func33, Try.ntmps33
  go_wp2
  go_loopg [5] L.length (fun k s wr => ∃ i : Nat, s = .int .i64 i ∧ i ≤ L.length ∧ L.length - i ≤ k ∧ Below w.heap.size w wr)
  case atStart => exact ⟨0, rfl, by omega, by omega, Below.refl _ _⟩
  case round =>
    obtain ⟨i, rfl, hi, hk, hB⟩ := hrel
    by_cases hlt : i < L.length
    · obtain ⟨b, o, rfl, hb, c1, c2⟩ := HR.out.at_ (k := i) hlt
      obtain ⟨b', o', rfl, hb', d1, d2⟩ := HR'.out.at_ (k := i) hlt
      rw [← hB.cell hb] at c1 c2
      rw [← hB.cell hb'] at d1 d2
      go_wp2_with fail
      go_quiet (fail)
      go_wp2_with fail
      go_roundg (L.length - (i + 1))
      case measure => omega
      case rel => exact ⟨i + 1, by go_num, by omega, by omega, hB.drewsN _⟩
    · go_wp2
      go_ret
      exact ⟨rfl, hB⟩
end Go.Proofs.Ytnodeooammplfaa
