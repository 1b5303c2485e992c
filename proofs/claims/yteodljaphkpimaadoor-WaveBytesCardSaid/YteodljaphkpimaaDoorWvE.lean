/- Walks over package wave: lists searched by a closure; Valid, differences, the array of widths. -/
import Derived.Test.YteodljaphkpimaaDoorWvD
namespace Go.Proofs.YteodljaphkpimaaDoor
open Go.RowKit
set_option linter.unusedSimpArgs false
set_option linter.unusedVariables false

theorem infoInt : (Tryd.prog.info? 3).map (fun i => (i.zero, i.size, i.bytes)) = some (some (.int .i64 0), 1, 8) := by kernel_rfl
/-- a closure that tells of the integers of a list -/
def PredV (g : Nat) (lb : Array Value) (p : Int → Bool) (l : List Int) (w : World) : Prop :=
  ∀ (W : World) (i : Nat), Below w.heap.size w W → i < l.length → Calls Tryd.prog g (#[.int .i64 (ix l i)] ++ lb) W fun e w' => e = .returned (.bool (p (ix l i))) ∧ Below W.heap.size W w'

theorem IndexFuncI_any (g : Nat) (lb : Array Value) (A : Option Addr) (c : Nat) (l : List Int) (p : Int → Bool) (w : World) (hr : RdI w w.heap.size A l) (hl : l.length ≤ 1000000)
  (eg : ∀ args w, (callFunc g args).run Tryd.prog w = .ok (.enter g args) w) (hp : PredV g lb p l w) :
    Calls Tryd.prog 79 #[.slice A l.length c, .func (.func g) #[] lb] w fun e w' => e = .returned (.int .i64 (idxF (fun k => p (ix l k)) l.length)) ∧ Below w.heap.size w w' := by
  have HP := Lib.hid hp; clear hp
  unfold PredV at HP
  have HR := Lib.hid hr; clear hr
  generalize hq : idxF (fun k => p (ix l k)) l.length = res
  have HQ := Lib.hid hq; clear hq
  generalize hn : l.length = n at *
  have HN := Lib.hid hn; clear hn
  go_enter Tryd.func79, Tryd.ntmps79
  go_wp2
  go_loopg [8] n (fun k s wr => ∃ i : Nat, s = .int .i64 i ∧ i ≤ n ∧ n - i ≤ k ∧ Below w.heap.size w wr ∧ Aside (∀ t, t < i → p (ix l t) = false))
  case atStart => exact ⟨0, rfl, by omega, by omega, Below.refl _ _, (fun t ht => absurd ht (Nat.not_lt_zero t) : ∀ t, t < 0 → p (ix l t) = false)⟩
  case round =>
    obtain ⟨i, rfl, hi, hk, hB, HA⟩ := hrel
    by_cases hlt : i < n
    · obtain ⟨b, o, rfl, hb, c1⟩ := HR.out.at_ (k := i) (by rw [HN.out]; exact hlt)
      rw [← hB.cell hb] at c1
      have hcall := HP.out wr i hB (by first | exact hlt | (rw [HN.out]; exact hlt))
      cases hpi : p (ix l i)
      all_goals
        rw [hpi] at hcall
        have HPI := Lib.hid hpi; clear hpi
        go_wp2_with (go_at_fn g; refine hcall.mono ?_; rintro e w' ⟨rfl, hB'⟩)
      · go_roundg (n - (i + 1))
        case measure => omega
        case rel => exact ⟨i + 1, by go_num, by omega, by omega, hB.trs hB', fun t ht => by
            rcases Nat.lt_succ_iff_lt_or_eq.1 ht with h | rfl
            · exact HA.out t h
            · exact HPI.out⟩
      · go_ret
        exact ⟨ret_int (by rw [← HQ.out]; exact (idxF_hit hlt HPI.out HA.out).symm), hB.trs hB'⟩
    · obtain rfl : i = n := by omega
      go_wp2
      go_ret
      exact ⟨ret_int (by rw [← HQ.out]; exact (idxF_miss HA.out).symm), hB⟩

theorem ContainsFuncI_any (g : Nat) (lb : Array Value) (A : Option Addr) (c : Nat) (l : List Int) (p : Int → Bool) (w : World) (hr : RdI w w.heap.size A l) (hl : l.length ≤ 1000000)
  (eg : ∀ args w, (callFunc g args).run Tryd.prog w = .ok (.enter g args) w) (hp : PredV g lb p l w) :
    Calls Tryd.prog 53 #[.slice A l.length c, .func (.func g) #[] lb] w fun e w' => e = .returned (.bool (anyF (fun k => p (ix l k)) l.length)) ∧ Below w.heap.size w w' := by
  have HI := Lib.hid (IndexFuncI_any g lb A c l p w hr hl eg hp)
  unfold anyF
  clear hr hp
  generalize idxF (fun k => p (ix l k)) l.length = r at *
  generalize l.length = n at *
  go_enter Tryd.func53, Tryd.ntmps53
  go_wp2_with (go_at_call 79; refine HI.out.mono ?_; rintro e w1 ⟨rfl, h1⟩)
  go_ret
  exact ⟨rfl, h1⟩


/-! ### which wave forms are valid -/
def smpB (x : Int) : Bool := btw 0 x 1023
def badW (l : List Int) : Bool := anyF (fun k => !(smpB (ix l k))) l.length
def vldW (l : List Int) : Bool := btw 1 l.length 40 && !(badW l)
theorem vldW_iff {l : List Int} : vldW l = true ↔ 1 ≤ l.length ∧ l.length ≤ 40 ∧ ∀ k, k < l.length → 0 ≤ ix l k ∧ ix l k ≤ 1023 := by
  unfold vldW
  rw [Bool.and_eq_true, btw_iff, Bool.not_eq_true']
  unfold badW
  rw [anyF_no]
  constructor
  · rintro ⟨⟨h1, h2⟩, h3⟩
    refine ⟨by omega, by omega, fun k hk => ?_⟩
    have := h3 k hk
    simp only [Bool.not_eq_false', smpB, btw_iff] at this
    exact this
  · rintro ⟨h1, h2, h3⟩
    refine ⟨⟨by omega, by omega⟩, fun k hk => ?_⟩
    simp only [Bool.not_eq_false', smpB, btw_iff]
    exact h3 k hk
set_option maxHeartbeats 1000000 in
theorem valid1_any (x : Int) (w : World) : Calls Tryd.prog 54 #[.int .i64 x] w fun e w' => e = .returned (.bool (!(smpB x))) ∧ w' = w := by
  have HB := Lib.hid (fun W => wvbetween_any 0 x 1023 W)
  unfold smpB
  generalize btw 0 x 1023 = r at *
  go_enter Tryd.func54, Tryd.ntmps54
  go_wp2_with (go_at_call 52; refine (HB.out _).mono ?_; rintro e w' ⟨rfl, rfl⟩)
  go_ret
  exact ⟨rfl, rfl⟩
set_option maxHeartbeats 1000000 in
theorem Valid_any (A : Option Addr) (c : Nat) (l : List Int) (w : World) (hr : RdI w w.heap.size A l) (hl : l.length ≤ 1000000) :
    Calls Tryd.prog 20 #[.slice A l.length c] w fun e w' => e = .returned (.bool (vldW l)) ∧ Below w.heap.size w w' := by
  have HC := Lib.hid (ContainsFuncI_any 54 #[] A c l (fun x => !(smpB x)) w hr hl (enters_of Tryd.func54 (by kernel_rfl) rfl) (fun W i _ _ => (valid1_any _ W).mono fun e w' h => ⟨h.1, by rw [h.2]; exact Below.refl _ _⟩))
  have HB := Lib.hid (fun W => wvbetween_any 1 l.length 40 W)
  have HV : Hid (vldW l = (btw 1 l.length 40 && !(badW l))) := Lib.hid rfl
  rw [show anyF (fun k => !(smpB (ix l k))) l.length = badW l from rfl] at HC
  generalize vldW l = v at *
  generalize badW l = b at *
  clear hr hl
  generalize l.length = n at *
  generalize btw 1 (n : Int) 40 = r at *
  cases r
  · go_enter Tryd.func20, Tryd.ntmps20
    go_wp2_with (first
      | (go_at_call 52; refine (HB.out _).mono ?_; rintro e w' ⟨rfl, rfl⟩)
      | (go_at_call 53; refine HC.out.mono ?_; rintro e w1 ⟨rfl, h1⟩))
    go_ret
    exact ⟨ret_bool (by rw [HV.out]; rfl), Below.refl _ _⟩
  · go_enter Tryd.func20, Tryd.ntmps20
    go_wp2_with (first
      | (go_at_call 52; refine (HB.out _).mono ?_; rintro e w' ⟨rfl, rfl⟩)
      | (go_at_call 53; refine HC.out.mono ?_; rintro e w1 ⟨rfl, h1⟩))
    go_ret
    exact ⟨ret_bool (by rw [HV.out]; simp), h1⟩
/-! ### differences -/
def difA (l : List Int) (i : Nat) : Int := ix l i - if i = 0 then 0 else ix l (i - 1)
def difN (l : List Int) (n : Nat) : List Int := (List.range n).map (difA l)
def difs (l : List Int) : List Int := difN l l.length
theorem difN_len (l : List Int) (n : Nat) : (difN l n).length = n := by simp [difN]
theorem difs_len (l : List Int) : (difs l).length = l.length := difN_len _ _
theorem difN_succ (l : List Int) (n : Nat) : difN l n ++ [difA l n] = difN l (n + 1) := by simp [difN, List.range_succ]
theorem difs_ix (l : List Int) {i : Nat} (hi : i < l.length) : ix (difs l) i = difA l i := by simp [ix, difs, difN, hi]
theorem difA_small {l : List Int} (h : vldW l = true) {i : Nat} (hi : i < l.length) : -1023 ≤ difA l i ∧ difA l i ≤ 1023 := by
  obtain ⟨h1, h2, h3⟩ := vldW_iff.1 h
  unfold difA
  have h4 := h3 i hi
  split
  · omega
  · have h5 := h3 (i - 1) (by omega)
    omega
/-- a list of its own -/
def LisQ (l : List Int) (w : World) (e : Ending) (w' : World) : Prop := Below w.heap.size w w' ∧ ∃ A c, e = .returned (.slice A l.length c) ∧ RdI w' w'.heap.size A l
set_option maxRecDepth 100000 in
set_option maxHeartbeats 2000000 in
theorem differences_any (A : Option Addr) (c : Nat) (l : List Int) (w : World) (hr : RdI w w.heap.size A l) (hl : l.length ≤ 1000) (hv : ∀ k, k < l.length → 0 ≤ ix l k ∧ ix l k ≤ 1023) :
    Calls Tryd.prog 49 #[.slice A l.length c] w (LisQ (difs l) w) := by
  have HR := Lib.hid hr
  have HV := Lib.hid hv
  have HS := Lib.hid (difN_succ l)
  have HLN := Lib.hid (difN_len l)
  have HDA : Hid (∀ i, difA l i = ix l i - if i = 0 then 0 else ix l (i - 1)) := Lib.hid (fun _ => rfl)
  have HD0 : Hid (difN l 0 = []) := Lib.hid rfl
  have HDS : Hid (difN l l.length = difs l) := Lib.hid rfl
  have HDL := Lib.hid (difs_len l)
  clear hr hv
  generalize difs l = ds at *
  obtain ⟨dn, hdn⟩ : ∃ dn, dn = difN l := ⟨_, rfl⟩
  rw [← hdn] at HS HLN HD0 HDS
  clear hdn
  generalize hn : l.length = n at *
  have HN := Lib.hid hn; clear hn
  go_enter Tryd.func49, Tryd.ntmps49
  go_wp2
  go_loopg [3, 4, 9] n (fun gk u v t wr => ∃ i : Nat, t = .int .i64 i ∧ v = .int .i64 (if i = 0 then 0 else ix l (i - 1)) ∧ i ≤ n ∧ n - i ≤ gk ∧ OwnI wr w.heap.size 3 u (dn i) ∧ Below w.heap.size w wr)
  case atStart => exact ⟨0, rfl, rfl, by omega, by omega, by rw [HD0.out]; exact OwnI.nil _ _ _, Below.refl _ _⟩
  case round =>
    obtain ⟨i, rfl, rfl, hi, hgk, hO, hB⟩ := hrel
    by_cases hlt : i < n
    · obtain ⟨b, o, rfl, hb, c1⟩ := HR.out.at_ (k := i) (by rw [HN.out]; exact hlt)
      rw [← hB.cell hb] at c1
      have hv1 := HV.out i hlt
      have hv0 : 0 ≤ (if i = 0 then 0 else ix l (i - 1)) ∧ (if i = 0 then 0 else ix l (i - 1)) ≤ 1023 := by
        split
        · omega
        · exact HV.out (i - 1) (by omega)
      have HSi := Lib.hid (HS.out i)
      have HAi := Lib.hid (HDA.out i)
      have HOO := Lib.hid hO
      have HBB := Lib.hid hB
      have hln := HLN.out i
      have HL := Lib.hid (And.intro hlt hgk)
      have hnx : Hid ((if i + 1 = 0 then 0 else ix l (i + 1 - 1)) = ix l i) := Lib.hid (by rw [if_neg (by omega), Nat.add_sub_cancel])
      clear hO hB hgk
      generalize (if i = 0 then 0 else ix l (i - 1)) = la at *
      generalize ix l i = x at *
      have e1 : IntKind.i64.wrap (x - la) = x - la := IntWalk.i64_in _ (by omega)
      have e2 : wrap64 (x - la) = x - la := IntWalk.wrap64_in _ (by omega)
      have hbz : w.heap.size ≤ wr.heap.size := HBB.out.size
      go_wp2_with (refine wp_app_int 22 rfl (.tmp 13) (.tmp 17) rfl Tryd.underlying22 infoInt wr w.heap.size _ (dn i) (x - la) rfl rfl HOO.out (by omega) hbz ?_; intro v6 w6 hO6 hB6 hS6)
      go_roundg (n - (i + 1))
      case measure => have := HL.out; omega
      case rel => exact ⟨i + 1, by go_num, by rw [hnx.out], by have := HL.out; omega, by have := HL.out; omega, by rw [← HSi.out, HAi.out]; exact hO6, HBB.out.trans hB6⟩
    · obtain rfl : i = n := by omega
      rw [HDS.out] at hO
      obtain ⟨A1, c1, rfl, hr1⟩ := hO.rd
      have HB := Lib.hid hB
      have HR1 := Lib.hid hr1
      rw [HDL.out]
      clear hB hO hr1
      generalize (if i = 0 then 0 else ix l (i - 1)) = la at *
      go_wp2
      go_ret
      exact ⟨HB.out, A1, c1, by rw [HDL.out]; rfl, HR1.out⟩
/-! ### the array of widths -/
def widV : Array Value := #[.int .i64 1, .int .i64 2, .int .i64 3, .int .i64 6, .int .i64 11]
set_option maxHeartbeats 1000000 in
theorem widths_any (w : World) : Calls Tryd.prog 78 #[] w fun e w' => e = .returned (.agg widV) ∧ Below w.heap.size w w' := by
  have hBl := Lib.hid (below_alloc w (.cells widV 78))
  unfold widV at *
  go_enter Tryd.func78, Tryd.ntmps78
  go_wp2
  have hbx := Box.new w 78 #[.int .i64 1, .int .i64 2, .int .i64 3, .int .i64 6, .int .i64 11]
  have e0 := hbx.cell 0
  have e1 := hbx.cell 1
  have e2 := hbx.cell 2
  have e3 := hbx.cell 3
  have e4 := hbx.cell 4
  refine bodyPost_ret (v := .agg #[.int .i64 1, .int .i64 2, .int .i64 3, .int .i64 6, .int .i64 11]) (by simp [results, Tryd.results78, go_sem]) rfl ⟨rfl, hBl.out⟩
end Go.Proofs.YteodljaphkpimaaDoor
