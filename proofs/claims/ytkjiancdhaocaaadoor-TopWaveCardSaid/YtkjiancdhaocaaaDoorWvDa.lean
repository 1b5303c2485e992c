/- Walks over package wave and its reference: samples off differences, and differences. -/
import Derived.Test.YtkjiancdhaocaaaDoorWvS
namespace Go.Proofs.YtkjiancdhaocaaaDoor
open Go.RowKit Go.Shelf
set_option linter.unusedSimpArgs false
set_option linter.unusedVariables false
attribute [local go_sem] Oper.semAt_some

def accN (l : List Int) : Nat → Int
  | 0 => 0
  | i + 1 => accN l i + ix l i
def accP (l : List Int) (n : Nat) : List Int := (List.range n).map fun i => accN l (i + 1)
def accL (l : List Int) : List Int := accP l l.length
theorem accP_len (l : List Int) (n : Nat) : (accP l n).length = n := by simp [accP]
theorem accL_len (l : List Int) : (accL l).length = l.length := accP_len _ _
theorem accP_succ (l : List Int) (n : Nat) : accP l n ++ [accN l (n + 1)] = accP l (n + 1) := by simp [accP, List.range_succ]
def smB (d : Int) : Bool := btw (-1023) d 1023
theorem accN_bd {l : List Int} : ∀ {i : Nat}, (∀ j, j < i → smB (ix l j) = true) → -(1023 * i) ≤ accN l i ∧ accN l i ≤ 1023 * i
  | 0, _ => by simp [accN]
  | i + 1, h => by
    have h1 := accN_bd (l := l) (i := i) fun j hj => h j (by omega)
    have h2 := btw_iff.1 (h i (by omega))
    rw [accN]
    omega
def smpOk (l : List Int) : Bool := decide (l.length ≤ 40) && !(anyF (fun i => !(smB (ix l i))) l.length) && vldW (accL l)
theorem smpOk_long {l : List Int} (h : 40 < l.length) : smpOk l = false := by unfold smpOk; rw [decide_eq_false (by omega)]; rfl
theorem smpOk_bad {l : List Int} {i : Nat} (hi : i < l.length) (h : smB (ix l i) = false) : smpOk l = false := by
  unfold smpOk
  have : anyF (fun i => !(smB (ix l i))) l.length = true := anyF_iff.2 ⟨i, hi, by simp [h]⟩
  rw [this]
  simp
theorem smpOk_end {l : List Int} (h : ∀ i, i < l.length → smB (ix l i) = true) : smpOk l = vldW (accL l) := by
  unfold smpOk
  have : anyF (fun i => !(smB (ix l i))) l.length = false := anyF_no.2 fun i hi => by simp [h i hi]
  rw [this]
  by_cases hl : l.length ≤ 40
  · rw [decide_eq_true hl]; simp
  · rw [decide_eq_false hl]
    cases hv : vldW (accL l) with
    | false => rfl
    | true => have := (vldW_iff.1 hv).2.1; rw [accL_len] at this; omega
/-- samples: a list, or false -/
def SamQ (l : List Int) (w : World) (e : Ending) (w' : World) : Prop :=
  Below w.heap.size w w' ∧ ∃ A n c, e = .returned (.tuple #[.slice A n c, .bool (smpOk l)]) ∧ (smpOk l = true → n = l.length ∧ RdI w' w'.heap.size A (accL l))
theorem SamQ.no {l : List Int} {w : World} (h : smpOk l = false) : Hid (∀ w', Below w.heap.size w w' → SamQ l w (.returned (.tuple #[.slice none 0 0, .bool false])) w') := Lib.hid fun w' hb => ⟨hb, none, 0, 0, by rw [h], fun h2 => by rw [h] at h2; cases h2⟩
theorem SamQ.fin {l : List Int} {w : World} {b : Bool} (h : smpOk l = b) : Hid (∀ A c w', Below w.heap.size w w' → RdI w' w'.heap.size A (accL l) → SamQ l w (.returned (.tuple #[.slice A l.length c, .bool b])) w') := Lib.hid fun A c w' hb hr => ⟨hb, A, l.length, c, by rw [h], fun _ => ⟨rfl, hr⟩⟩
set_option maxRecDepth 100000 in
set_option maxHeartbeats 4000000 in
theorem samples_any (A : Option Addr) (c : Nat) (l : List Int) (w : World) (hr : RdI w w.heap.size A l) (hl : l.length ≤ 1000000) :
    Calls Tryd.prog 34 #[.slice A l.length c] w (SamQ l w) := by
  have HNO : smpOk l = false → Hid (∀ w', Below w.heap.size w w' → SamQ l w (.returned (.tuple #[.slice none 0 0, .bool false])) w') := SamQ.no
  by_cases hM : l.length ≤ 40
  · have HBAD := Lib.hid (fun i (hi : i < l.length) h => HNO (smpOk_bad hi h))
    have HFIN := Lib.hid (fun (h : ∀ i, i < l.length → smB (ix l i) = true) => SamQ.fin (w := w) (smpOk_end h))
    have HVA := Lib.hid (fun A c W h => Valid_any A c (accL l) W h (by rw [accL_len]; omega))
    have hal := accL_len l
    rw [hal] at HVA
    have HB := Lib.hid (fun x W => wvbetween_any (-1023) x 1023 W)
    have HSB : Hid (∀ x, btw (-1023) x 1023 = smB x) := Lib.hid fun _ => rfl
    have HAB := Lib.hid (fun i h => accN_bd (l := l) (i := i) h)
    have HAS : Hid (∀ i, accN l (i + 1) = accN l i + ix l i) := Lib.hid fun _ => rfl
    have HA0 : Hid (accN l 0 = 0) := Lib.hid rfl
    have HPS := Lib.hid (accP_succ l)
    have HPL := Lib.hid (accP_len l)
    have HP0 : Hid (accP l 0 = []) := Lib.hid rfl
    have HPE : Hid (accP l l.length = accL l) := Lib.hid rfl
    have HR := Lib.hid hr
    have hMI : ¬ (40 : Int) < (l.length : Int) := by omega
    clear hr HNO
    generalize SamQ l w = R at *
    generalize vldW (accL l) = va at *
    generalize accL l = al at *
    generalize hn : l.length = n at *
    have HN := Lib.hid (And.intro hn hal)
    clear hn hal
    generalize accN l = ac at *
    generalize accP l = ap at *
    go_enter Tryd.func34, Tryd.ntmps34
    go_wp2
    go_loopg [4, 5, 13] n (fun gk u v t wr => ∃ i : Nat, t = .int .i64 i ∧ v = .int .i64 (ac i) ∧ i ≤ n ∧ n - i ≤ gk ∧ (∀ j, j < i → smB (ix l j) = true) ∧ OwnI wr w.heap.size 3 u (ap i) ∧ Below w.heap.size w wr)
    case atStart => exact ⟨0, rfl, by rw [HA0.out], by omega, by omega, fun j hj => by omega, by rw [HP0.out]; exact OwnI.nil _ _ _, Below.refl _ _⟩
    case round =>
      obtain ⟨i, rfl, rfl, hi, hgk, hall, hO, hB⟩ := hrel
      by_cases hlt : i < n
      · obtain ⟨b, o, rfl, hb, c1⟩ := HR.out.at_ (k := i) (by rw [HN.out.1]; exact hlt)
        rw [← hB.cell hb] at c1
        have HBx := Lib.hid (fun W => HB.out (ix l i) W)
        have HBADi := Lib.hid (HBAD.out i hlt)
        have hab := HAB.out i hall
        have HASi := Lib.hid (HAS.out i)
        have HPSi := Lib.hid (HPS.out i)
        have hpl := HPL.out i
        have HALL := Lib.hid hall
        have HOO := Lib.hid (And.intro hO hB)
        have hbz : w.heap.size ≤ wr.heap.size := hB.size
        rw [HSB.out] at HBx
        clear hall hO hB
        cases hs : smB (ix l i)
        · rw [hs] at HBx
          have HX := HBADi.out hs
          clear hs HBADi
          generalize ix l i = x at *
          generalize ac i = y at *
          go_wp2_with (go_at_call 40; refine (HBx.out _).mono ?_; rintro e w1 ⟨rfl, rfl⟩)
          exact HX.out _ HOO.out.2
        · rw [hs] at HBx
          have hx := btw_iff.1 (show btw (-1023) (ix l i) 1023 = true from hs)
          have HSS := Lib.hid hs
          clear hs HBADi
          generalize hxe : ix l i = x at *
          generalize ac i = y at *
          have e1 : IntKind.i64.wrap (y + x) = y + x := IntWalk.i64_in _ (by omega)
          have e2 : wrap64 (y + x) = y + x := IntWalk.wrap64_in _ (by omega)
          have HXE := Lib.hid hxe
          clear hxe hab hx
          go_wp2_with (first
            | (go_at_call 40; refine (HBx.out _).mono ?_; rintro e w1 ⟨rfl, rfl⟩)
            | (refine wp_app_int 22 rfl (.tmp 23) (.tmp 25) rfl Tryd.underlying22 infoInt _ w.heap.size _ (ap i) (y + x) rfl rfl HOO.out.1 (by omega) hbz ?_; intro v6 w6 hO6 hB6 hS6))
          go_roundg (n - (i + 1))
          case measure => omega
          case rel => exact ⟨i + 1, by go_num, by rw [HASi.out], by omega, by omega, fun j hj => by
            by_cases e : j = i
            · subst e; rw [HXE.out]; exact HSS.out
            · exact HALL.out j (by omega), by rw [← HPSi.out, HASi.out]; exact hO6, HOO.out.2.trans hB6⟩
      · obtain rfl : i = n := by omega
        have HF := HFIN.out hall
        rw [HPE.out] at hO
        obtain ⟨A1, c1, rfl, hr1⟩ := hO.rd
        have HVx := Lib.hid (HVA.out A1 c1 _ hr1)
        have HB1 := Lib.hid hB
        have HR1 := Lib.hid hr1
        have hl2 := HN.out.2
        clear hall hO hB hr1
        rw [hl2]
        generalize ac i = y at *
        go_wp2_with (go_at_call 20; refine HVx.out.mono ?_; rintro e w2 ⟨rfl, h2⟩)
        exact HF.out _ _ _ (HB1.out.trans (h2.mono HB1.out.size)) (HR1.out.on h2)
  · have HX := HNO (smpOk_long (by omega))
    have hMI : (40 : Int) < (l.length : Int) := by omega
    clear hr HNO
    generalize SamQ l w = R at *
    generalize l.length = n at *
    go_enter Tryd.func34, Tryd.ntmps34
    go_wp2
    exact HX.out _ (Below.refl _ _)
def smpE (l : List Int) : Int := if smpOk l = true then 0 else 5
def smpL (l : List Int) : List Int := if smpOk l = true then accL l else []
end Go.Proofs.YtkjiancdhaocaaaDoor
