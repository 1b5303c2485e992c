/- Walks over the reference of ice: lamps, what is asked, Lamps and Dark. -/
import Derived.Test.YtbocedbonaeohaaIceO
import Derived.Test.YtbocedbonaeohaaLib4
namespace Go.Proofs.Ytbocedbonaeohaa
set_option linter.unusedVariables false
open Go.RowKit

def fstI (K : List (Nat × Nat)) : List Int := K.map fun x => (x.1 : Int)
def sndI (K : List (Nat × Nat)) : List Int := K.map fun x => (x.2 : Int)
theorem fstI_snoc (K : List (Nat × Nat)) (a m : Nat) : fstI (K ++ [(a, m)]) = fstI K ++ [(a : Int)] := by simp [fstI]
theorem sndI_snoc (K : List (Nat × Nat)) (a m : Nat) : sndI (K ++ [(a, m)]) = sndI K ++ [(m : Int)] := by simp [sndI]
theorem fstI_len (K : List (Nat × Nat)) : (fstI K).length = K.length := by simp [fstI]
theorem sndI_len (K : List (Nat × Nat)) : (sndI K).length = K.length := by simp [sndI]
theorem litL_fst (K : List (Nat × Nat)) : litL (fun x _ => x) K = fstI K := by simp [litL, lmp, fstI]
theorem litL_snd (K : List (Nat × Nat)) : litL (fun _ y => y) K = sndI K := by simp [litL, lmp, sndI]

def RefLampsPost (l : List Int) (s : Int) (w : World) (e : Ending) (w' : World) : Prop :=
  Below w.heap.size w w' ∧ ((lampsO l s = none ∧ e = .returned (.tuple #[.slice none 0 0, .slice none 0 0, .bool false])) ∨ ∃ K v u, lampsO l s = some K ∧ e = .returned (.tuple #[v, u, .bool true]) ∧ OwnI w' w.heap.size 3 v (fstI K) ∧ OwnI w' w.heap.size 3 u (sndI K))

theorem refasked_any (A : Option Addr) (c : Nat) (L : List (Int × Int)) (s : Int) (w : World) (hr : RdP w w.heap.size A L) (hl : L.length ≤ 1125899906842624) :
    Calls Try.prog 31 #[.slice A L.length c, .int .i64 s] w fun e w' => e = .returned (.int .i64 (gate (vld L) (btw 0 s 100000))) ∧ w = w' := by
  have HV := Lib.hid (refValid_any A c L w hr hl)
  clear hr
  cases hv : vld L
  · rw [hv] at HV
    clear hv
    go_enter Try.func31, Try.ntmps31
    go_wp2_with (go_at_call 5; refine HV.out.mono ?_; rintro e w' ⟨rfl, rfl⟩)
    go_ret
    exact ⟨rfl, rfl⟩
  · have HB := Lib.hid (fun W => within_any 0 s 100000 W)
    rw [hv] at HV
    cases hs : btw 0 s 100000
    all_goals
      rw [hs] at HB
      clear hs
      go_enter Try.func31, Try.ntmps31
      go_wp2_with (first | (go_at_call 5; refine HV.out.mono ?_; rintro e w' ⟨rfl, rfl⟩) | (go_at_call 15; refine (HB.out _).mono ?_; rintro e w' ⟨rfl, rfl⟩))
      go_ret
      exact ⟨rfl, rfl⟩
end Go.Proofs.Ytbocedbonaeohaa
