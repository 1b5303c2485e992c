/- The walk over the law IceOthers. -/
import Derived.Test.YtnodeooammplfaaIceTurn2
namespace Go.Proofs.Ytnodeooammplfaa
open Go.RowKit

set_option maxRecDepth 100000 in
set_option maxHeartbeats 200000 in
theorem IceOthers_walk (w : World) (A : Option Addr) (c : Nat) (L : List (Int × Int)) (hr : RdP w w.heap.size A L) (_hm : L.length ≤ maxLen) :
    Calls Try.prog 5 #[.slice A L.length c] w fun e w' => e = .returned (.bool true) ∧ Below w.heap.size w w' := by
  have HR := Lib.hid hr; clear hr
  by_cases hl : L.length ≤ 60
  · have hd : decide ((60 : Int) < L.length) = false := by simp; omega
    have hl2 : L.length ≤ 1125899906842624 := by omega
    have hlp : (PL L).length ≤ 1125899906842624 := by
      unfold PL; split
      · have := plain_len L L.length (Nat.le_refl _); rw [List.take_length] at this; omega
      · simp
    have hlt : (TL L).length ≤ 1125899906842624 := by unfold TL; split <;> simp; omega
    generalize hg : gate (vld L) true = er
    have P1 : Hid (∀ W, Below w.heap.size w W → Calls Try.prog 29 #[.slice A L.length c] W (IceRet (PL L) er W)) := fun W h => by rw [← hg]; exact Plain_any A c L W (HR.out.on h) hl2
    have P2 : Hid (∀ W, Below w.heap.size w W → Calls Try.prog 30 #[.slice A L.length c] W (IceRet (PL L) er W)) := fun W h => by rw [← hg]; exact refPlain_any A c L W (HR.out.on h) hl2
    have P3 : Hid (∀ W, Below w.heap.size w W → Calls Try.prog 31 #[.slice A L.length c] W (IceRet (TL L) er W)) := fun W h => by rw [← hg]; exact Turned_any A c L W (HR.out.on h) hl2
    have P4 : Hid (∀ W, Below w.heap.size w W → Calls Try.prog 32 #[.slice A L.length c] W (IceRet (TL L) er W)) := fun W h => by rw [← hg]; exact refTurned_any A c L W (HR.out.on h) hl2
    clear hg
    generalize PL L = pl at P1 P2 hlp
    generalize TL L = tl at P3 P4 hlt
    go_enter Try.func5, Try.ntmps5
    go_wp2_with (first
      | (go_at_call 16; refine (Long_any _ _ _ _).mono ?_; rintro e w' ⟨rfl, rfl⟩)
      | (go_at_call 29; refine (P1.out _ (Below.refl _ _)).mono ?_; rintro e w1 ⟨h1, A1, c1, rfl, r1⟩)
      | (go_at_call 30; refine (P2.out _ h1).mono ?_; rintro e w2 ⟨h2, A2, c2, rfl, r2⟩; replace r1 := r1.on h2; have h2 := h1.trs h2)
      | (go_at_call 31; refine (P3.out _ h2).mono ?_; rintro e w3 ⟨h3, A3, c3, rfl, r3⟩; replace r1 := r1.on h3; replace r2 := r2.on h3; have h3 := h2.trs h3)
      | (go_at_call 32; refine (P4.out _ h3).mono ?_; rintro e w4 ⟨h4, A4, c4, rfl, r4⟩; replace r1 := r1.on h4; replace r2 := r2.on h4; replace r3 := r3.on h4; have h4 := h3.trs h4; have q1 := Lib.hid r1; have q2 := Lib.hid r2; have q3 := Lib.hid r3; have q4 := Lib.hid r4; clear r1 r2 r3 r4)
      | (go_at_call 33; first
          | (have q7 := q5.out; refine (sameIce_any _ _ _ _ tl _ q5.out q6.out hlt).mono ?_; rintro e w6 ⟨rfl, h6⟩; have h6 := h5.trs h6)
          | (refine (sameIce_any _ _ _ _ pl _ q1.out q2.out hlp).mono ?_; rintro e w5 ⟨rfl, h5⟩; have q5 := Lib.hid (q3.out.on h5); have q6 := Lib.hid (q4.out.on h5); have h5 := h4.trs h5))
      | (go_at_call 17; refine (Sane_any _).mono ?_; rintro e w10 ⟨rfl, h10⟩))
    go_ret
    exact ⟨rfl, h6.trs h10⟩
  · have hd : decide ((60 : Int) < L.length) = true := by simp; omega
    go_enter Try.func5, Try.ntmps5
    go_wp2_with (first
      | (go_at_call 16; refine (Long_any _ _ _ _).mono ?_; rintro e w' ⟨rfl, rfl⟩)
      | (go_at_call 17; refine (Sane_any _).mono ?_; rintro e w10 ⟨rfl, h10⟩))
    go_ret
    exact ⟨rfl, h10⟩
end Go.Proofs.Ytnodeooammplfaa
