/- Walks over package wave: Quiet. -/
import Derived.Test.YteodljaphkpimaaDoorWvI
import Derived.Deep.RegionHeld3
namespace Go.Proofs.YteodljaphkpimaaDoor
open Go.RowKit Go.Shelf
set_option linter.unusedSimpArgs false
set_option linter.unusedVariables false
attribute [local go_sem] Oper.semAt_some

/-- sample number k of the quiet wave form -/
def qv (l : List Int) (m : Int) : Nat → Int
  | 0 => ix l 0
  | k + 1 => if btw (-m) (ix l (k + 1) - qv l m k) m then qv l m k else ix l (k + 1)
def qF (l : List Int) (m : Int) (i : Nat) : Nat → Int := fun k => if k < i then qv l m k else ix l k
def quI (l : List Int) (m : Int) : List Int := (List.range l.length).map (qv l m)
theorem quI_len (l : List Int) (m : Int) : (quI l m).length = l.length := by simp [quI]
theorem quI_ix (l : List Int) (m : Int) {k : Nat} (hk : k < l.length) : ix (quI l m) k = qv l m k := by simp [ix, quI, hk]
theorem qv_small {l : List Int} (h : ∀ k, k < l.length → 0 ≤ ix l k ∧ ix l k ≤ 1023) (m : Int) : ∀ k, k < l.length → 0 ≤ qv l m k ∧ qv l m k ≤ 1023
  | 0, hk => h 0 hk
  | k + 1, hk => by
    rw [qv]
    split
    · exact qv_small h m k (by omega)
    · exact h _ hk
/-- n ints in a block -/
structure CelF (w : World) (g n : Nat) (f : Nat → Int) : Prop where
  lt : g < w.heap.size
  cell : ∀ k, k < n → w.cell? ⟨g, k, none⟩ = some (.int .i64 (f k))
  frozen : ∀ k, w.frozen? ⟨g, k, none⟩ = false
theorem CelF.on {w w' : World} {g n : Nat} {f : Nat → Int} (h : CelF w g n f) (hb : Below w.heap.size w w') : CelF w' g n f :=
  ⟨Nat.lt_of_lt_of_le h.lt hb.size, fun k hk => (hb.cell (p := ⟨g, k, none⟩) h.lt).trans (h.cell k hk), fun k => (hb.frozen (p := ⟨g, k, none⟩) h.lt).trans (h.frozen k)⟩
theorem CelF.set {w : World} {g n i : Nat} {f f' : Nat → Int} {x : Int} (h : CelF w g n f) (hi : i < n) (hf : ∀ k, k < n → f' k = if k = i then x else f k) : CelF (w.setCell ⟨g, i, none⟩ (.int .i64 x)) g n f' := by
  refine ⟨by simpa using h.lt, fun k hk => ?_, fun k => by simpa using h.frozen k⟩
  rw [hf k hk]
  by_cases e : k = i
  · subst e; rw [if_pos rfl]; exact World.cell?_setCell_same _ _ _ (h.cell k hk)
  · rw [if_neg e, World.cell?_setCell_other _ _ _ _ (by intro e'; injection e' with _ e2; exact e e2.symm)]; exact h.cell k hk
theorem CelF.cong {w : World} {g n : Nat} {f f' : Nat → Int} (h : CelF w g n f) (hf : ∀ k, k < n → f' k = f k) : CelF w g n f' := ⟨h.lt, fun k hk => by rw [hf k hk]; exact h.cell k hk, h.frozen⟩
theorem CelF.rd {w : World} {g n : Nat} {f : Nat → Int} {l : List Int} (h : CelF w g n f) (hn : l.length = n) (hf : ∀ k, k < n → f k = ix l k) : RdI w w.heap.size (some ⟨g, 0, none⟩) l :=
  .inr ⟨g, 0, rfl, h.lt, fun k hk => by rw [Nat.zero_add, h.cell k (by omega), hf k (by omega)]⟩
def QuE (l : List Int) (m : Int) : Int := if vldW l then (if btw 0 m 1023 then 0 else 2) else 30
def quL (l : List Int) (m : Int) : List Int := if QuE l m = 0 then quI l m else []
/-- a list and a number come back -/
def LisE (L : List Int) (E : Int) (w : World) (e : Ending) (w' : World) : Prop := Below w.heap.size w w' ∧ ∃ A c, e = .returned (.tuple #[.slice A L.length c, .int .i64 E]) ∧ RdI w' w'.heap.size A L
set_option maxRecDepth 100000 in
set_option maxHeartbeats 4000000 in
theorem Quiet_any (A : Option Addr) (c : Nat) (l : List Int) (m : Int) (w : World) (hr : RdI w w.heap.size A l) (hl : l.length ≤ 1000000) :
    Calls Tryd.prog 34 #[.slice A l.length c, .int .i64 m] w (LisE (quL l m) (QuE l m) w) := by
  have HV := Lib.hid (Valid_any A c l w hr hl)
  have HB0 := Lib.hid (fun W => wvbetween_any 0 m 1023 W)
  have HNO : ∀ x, QuE l m = x → x ≠ 0 → Hid (∀ w', Below w.heap.size w w' → LisE (quL l m) (QuE l m) w (.returned (.tuple #[.slice none 0 0, .int .i64 x])) w') := fun x h h0 => Lib.hid (fun w' hb => by
    unfold quL
    rw [h, if_neg h0]
    exact ⟨hb, none, 0, rfl, .inl rfl⟩)
  have HYE : QuE l m = 0 → Hid (∀ w' A c, Below w.heap.size w w' → RdI w' w'.heap.size A (quI l m) → LisE (quL l m) (QuE l m) w (.returned (.tuple #[.slice A l.length c, .int .i64 0])) w') := fun h => Lib.hid (fun w' A c hb hr => by
    unfold quL
    rw [h, if_pos rfl]
    exact ⟨hb, A, c, by rw [quI_len], hr⟩)
  have hE : QuE l m = if vldW l then (if btw 0 m 1023 then 0 else 2) else 30 := rfl
  generalize LisE (quL l m) (QuE l m) w = R at *
  cases hv : vldW l
  · rw [hv] at HV hE
    have HX := HNO 30 hE (by omega)
    clear hr HNO HYE hE
    go_enter Tryd.func34, Tryd.ntmps34
    go_wp2_with (go_at_call 20; refine HV.out.mono ?_; rintro e w1 ⟨rfl, h1⟩)
    exact HX.out _ h1
  · cases hm : btw 0 m 1023
    · rw [hv] at HV
      rw [hm] at HB0
      rw [hv, hm] at hE
      have HX := HNO 2 hE (by omega)
      clear hr HNO HYE hE
      go_enter Tryd.func34, Tryd.ntmps34
      go_wp2_with (first
        | (go_at_call 20; refine HV.out.mono ?_; rintro e w1 ⟨rfl, h1⟩)
        | (go_at_call 52; refine (HB0.out _).mono ?_; rintro e w2 ⟨rfl, rfl⟩))
      exact HX.out _ h1
    · obtain ⟨hl1, hl2, hsm⟩ := vldW_iff.1 hv
      have hm2 := btw_iff.1 hm
      have HQS := Lib.hid (qv_small hsm m)
      have HSM := Lib.hid hsm
      have hne : l ≠ [] := fun e => by rw [e] at hl1; simp at hl1
      have HC := Lib.hid (fun W (hW : Below w.heap.size w W) => CloneI_any A c l W (hr.on hW) hne hl)
      have e3 : IntKind.i64.wrap (-m) = -m := IntWalk.i64_in _ (by omega)
      have e4 : wrap64 (-m) = -m := IntWalk.wrap64_in _ (by omega)
      have HB := Lib.hid (fun x W => wvbetween_any (-m) x m W)
      have HQI := Lib.hid (quI_len l m)
      have HQX := Lib.hid (fun k hk => quI_ix l m (k := k) hk)
      have HQV : Hid (∀ k, qv l m (k + 1) = if btw (-m) (ix l (k + 1) - qv l m k) m then qv l m k else ix l (k + 1)) := Lib.hid (fun _ => rfl)
      have HQ0 : Hid (qv l m 0 = ix l 0) := Lib.hid rfl
      have HFD : Hid (∀ i k, qF l m i k = if k < i then qv l m k else ix l k) := Lib.hid (fun _ _ => rfl)
      rw [hv] at HV
      rw [hm] at HB0
      rw [hv, hm] at hE
      have HX := HYE hE
      clear hr hsm hv hm HNO HYE hE
      generalize quI l m = qi at *
      generalize qF l m = qf at *
      generalize qv l m = q at *
      generalize hn : l.length = n at *
      have HN := Lib.hid hn; clear hn
      go_enter Tryd.func34, Tryd.ntmps34
      go_wp2_with (first
        | (go_at_call 20; refine HV.out.mono ?_; rintro e w1 ⟨rfl, h1⟩)
        | (go_at_call 52; refine (HB0.out _).mono ?_; rintro e w2 ⟨rfl, rfl⟩)
        | (go_at_call 68; refine (HC.out _ h1).mono ?_; rintro e w3 ⟨v, rfl, hO, h3⟩; rcases hO.form with ⟨_, h0⟩ | ⟨g, cc, rfl, hg0, hg1, -, -, hcl, hfz⟩; · exact absurd h0 hne))
      rw [HN.out] at hcl ⊢
      have HW3 := Lib.hid (And.intro (show CelF w3 g n (qf 1) from ⟨hg1, fun k hk => by
        rw [hcl k hk, HFD.out]
        by_cases e : k < 1
        · rw [if_pos e, show k = 0 by omega, HQ0.out]
        · rw [if_neg e], hfz⟩) (And.intro (h1.trs h3) (Nat.le_trans h1.size hg0)))
      clear hO h1 h3 hg0 hg1 hcl hfz
      go_loopg [7] n (fun gk t wr => ∃ i : Nat, t = .int .i64 i ∧ 1 ≤ i ∧ i ≤ n ∧ n - i ≤ gk ∧ CelF wr g n (qf i) ∧ Below w.heap.size w wr)
      case atStart => exact ⟨1, rfl, by omega, by omega, by omega, HW3.out.1, HW3.out.2.1⟩
      case round =>
        obtain ⟨i, rfl, hi1, hi, hgk, hF, hB⟩ := hrel
        by_cases hlt : i < n
        · obtain ⟨j, hj⟩ : ∃ j, i = j + 1 := ⟨i - 1, by omega⟩
          have cI := hF.cell i hlt
          have cJ := hF.cell j (by omega)
          have fI := hF.frozen i
          rw [HFD.out, if_neg (by omega)] at cI
          rw [HFD.out, if_pos (by omega)] at cJ
          have e1 : IntKind.i64.wrap ((i : Int) - 1) = (j : Int) := by rw [IntWalk.i64_in _ (by omega)]; omega
          have e2 : wrap64 ((i : Int) - 1) = (j : Int) := by rw [IntWalk.wrap64_in _ (by omega)]; omega
          have hj0 : (0 : Int) ≤ (j : Int) := by omega
          have hjn : (j : Int) < (n : Int) := by omega
          have hin : (i : Int) < (n : Int) := by omega
          have hi0 : (0 : Int) ≤ (i : Int) := by omega
          have hq := HQS.out j (by omega)
          have hx := HSM.out i hlt
          have HQVj := Lib.hid (HQV.out j)
          rw [← hj] at HQVj
          have hqx : ∀ k, qf i k = if k < i then q k else ix l k := HFD.out i
          have HFI := Lib.hid hqx
          clear hqx
          have HFN := Lib.hid (HFD.out (i + 1))
          generalize hy : q j = y at *
          generalize hxe : ix l i = x at *
          have HXE := Lib.hid hxe
          clear hxe hy
          have e5 : IntKind.i64.wrap (x - y) = x - y := IntWalk.i64_in _ (by omega)
          have e6 : wrap64 (x - y) = x - y := IntWalk.wrap64_in _ (by omega)
          have HBx := Lib.hid (HB.out (x - y))
          have HFB := Lib.hid (And.intro hF hB)
          have HJ := Lib.hid hj
          have HM := Lib.hid (And.intro hq hx)
          clear hF hB hj hq hx
          cases hb : btw (-m) (x - y) m
          all_goals
            rw [hb] at HQVj HBx
            clear hb
            go_wp2
            go_region_held3 (fun w' => w'.cell? ⟨g, i, none⟩ = some (.int .i64 x) ∧ w'.cell? ⟨g, j, none⟩ = some (.int .i64 y) ∧ w'.frozen? ⟨g, i, none⟩ = false ∧ Below wr.heap.size wr w') (first | (refine ⟨?_, ?_, ?_, ?_⟩ <;> first | assumption | exact (Below.refl _ _).drewsN 1 | go_keep) | exact (Below.refl _ _).drewsN 1 | go_keep)
              (first | (go_at_call 52; refine (HBx.out _).mono ?_; rintro e w9 ⟨rfl, rfl⟩))
          · go_wp2
            go_roundg (n - (i + 1))
            case measure => omega
            case rel => exact ⟨i + 1, by go_num, by omega, by omega, by omega, (HFB.out.1.on (Below.refl _ _).drew).cong (fun k hk => by
              rw [HFN.out, HFI.out]
              by_cases e : k = i
              · subst e; rw [if_pos (by omega), if_neg (by omega), HQVj.out, HXE.out]; simp
              · by_cases e2 : k < i
                · rw [if_pos (by omega), if_pos e2]
                · rw [if_neg (by omega), if_neg e2]), HFB.out.2.drew⟩
          · go_wp2
            go_roundg (n - (i + 1))
            case measure => omega
            case rel => exact ⟨i + 1, by go_num, by omega, by omega, by omega, (HFB.out.1.on (Below.refl _ _).drew).set hlt (fun k hk => by
              rw [HFN.out, HFI.out]
              by_cases e : k = i
              · subst e; rw [if_pos (by omega), if_pos rfl, HQVj.out]; simp
              · rw [if_neg e]
                by_cases e2 : k < i
                · rw [if_pos (by omega), if_pos e2]
                · rw [if_neg (by omega), if_neg e2]), HFB.out.2.drew.setCell (p := ⟨g, i, none⟩) (by have := HW3.out.2.2; exact this) _⟩
        · obtain rfl : n = i := by omega
          have HFB := Lib.hid (And.intro hF hB)
          clear hF hB
          go_wp2
          exact HX.out _ _ cc HFB.out.2 (HFB.out.1.rd HQI.out (fun k hk => by rw [HFD.out, if_pos hk, HQX.out k hk]))
end Go.Proofs.YteodljaphkpimaaDoor
