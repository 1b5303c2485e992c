/- Walks over the reference of chapter wave: differences, Encode, Length. -/
import Derived.Test.YteodljaphkpimaaDoorWvS
import Derived.Test.YteodljaphkpimaaDoorWvI
namespace Go.Proofs.YteodljaphkpimaaDoor
open Go.RowKit Go.Shelf
set_option linter.unusedSimpArgs false
set_option linter.unusedVariables false
attribute [local go_sem] Oper.semAt_some

theorem OwnI.one (w : World) (e : TypeId) (x : Int) : OwnI (w.alloc (.cells #[.int .i64 x] e)) w.heap.size e (.slice (some ⟨w.heap.size, 0, none⟩) 1 1) [x] :=
  ⟨rfl, .inr ⟨w.heap.size, 1, #[.int .i64 x], rfl, Nat.le_refl _, heap_alloc_new w _, Nat.le_refl _, by unfold maxLen; omega, rfl, rfl⟩⟩
theorem difN_one (l : List Int) : difN l 1 = [ix l 0] := by simp [difN, difA, List.range_succ]
set_option maxRecDepth 100000 in
set_option maxHeartbeats 2000000 in
theorem refDifferences_any (A : Option Addr) (c : Nat) (l : List Int) (w : World) (hr : RdI w w.heap.size A l) (h1 : 1 ≤ l.length) (hl : l.length ≤ 1000) (hv : ∀ k, k < l.length → 0 ≤ ix l k ∧ ix l k ≤ 1023) :
    Calls Tryd.prog 50 #[.slice A l.length c] w (LisQ (difs l) w) := by
  have HR := Lib.hid hr
  have HV := Lib.hid hv
  have HS := Lib.hid (difN_succ l)
  have HLN := Lib.hid (difN_len l)
  have HDA : Hid (∀ i, difA l i = ix l i - if i = 0 then 0 else ix l (i - 1)) := Lib.hid (fun _ => rfl)
  have HD1 := Lib.hid (difN_one l)
  have HDS : Hid (difN l l.length = difs l) := Lib.hid rfl
  have HDL := Lib.hid (difs_len l)
  clear hr hv
  generalize difs l = ds at *
  obtain ⟨dn, hdn⟩ : ∃ dn, dn = difN l := ⟨_, rfl⟩
  rw [← hdn] at HS HLN HD1 HDS
  clear hdn
  generalize hn : l.length = n at *
  have HN := Lib.hid hn; clear hn
  obtain ⟨b, o, rfl, hb, c0⟩ := HR.out.at_ (k := 0) (by rw [HN.out]; exact h1)
  replace c0 : w.cell? ⟨b, o, none⟩ = some (.int .i64 (ix l 0)) := c0
  have hn0 : (0 : Int) < (n : Int) := by omega
  have hn0N : 0 < n := by omega
  have HO1 := Lib.hid (OwnI.one w 3 (ix l 0))
  have HB1 := Lib.hid (below_alloc w (.cells #[.int .i64 (ix l 0)] 3))
  go_enter Tryd.func50, Tryd.ntmps50
  go_wp2
  go_loopg [3, 4] n (fun gk u t wr => ∃ i : Nat, t = .int .i64 i ∧ 1 ≤ i ∧ i ≤ n ∧ n - i ≤ gk ∧ OwnI wr w.heap.size 3 u (dn i) ∧ Below w.heap.size w wr)
  case atStart => exact ⟨1, rfl, by omega, by omega, by omega, by rw [HD1.out]; exact HO1.out, HB1.out⟩
  case round =>
    obtain ⟨i, rfl, hi1, hi, hgk, hO, hB⟩ := hrel
    by_cases hlt : i < n
    · obtain ⟨b', o', he, hb1, d1⟩ := HR.out.at_ (k := i) (by rw [HN.out]; exact hlt)
      cases he
      obtain ⟨j, hj⟩ : ∃ j, i = j + 1 := ⟨i - 1, by omega⟩
      obtain ⟨b', o', he, hb2, d2⟩ := HR.out.at_ (k := j) (by rw [HN.out]; omega)
      cases he
      have hv1 := HV.out i hlt
      have hv0 := HV.out j (by omega)
      have HSi := Lib.hid (HS.out i)
      have HAi := Lib.hid (HDA.out i)
      rw [if_neg (by omega), show i - 1 = j by omega] at HAi
      have hln := HLN.out i
      have e1 : IntKind.i64.wrap ((i : Int) - 1) = (j : Int) := by rw [IntWalk.i64_in _ (by omega)]; omega
      have e2 : wrap64 ((i : Int) - 1) = (j : Int) := by rw [IntWalk.wrap64_in _ (by omega)]; omega
      have hj0 : (0 : Int) ≤ (j : Int) := by omega
      have hjn : (j : Int) < (n : Int) := by omega
      have hin : (i : Int) < (n : Int) := by omega
      have hi0 : (0 : Int) ≤ (i : Int) := by omega
      have HOO := Lib.hid hO
      have HBB := Lib.hid hB
      have HIJ := Lib.hid (And.intro hlt (And.intro hgk hj))
      clear hO hB hj
      generalize ix l i = x at *
      generalize ix l j = y at *
      have e3 : IntKind.i64.wrap (x - y) = x - y := IntWalk.i64_in _ (by omega)
      have e4 : wrap64 (x - y) = x - y := IntWalk.wrap64_in _ (by omega)
      have HK := Lib.hid (fun W (hW : Below w.heap.size w W) => (⟨hW, (hW.cell (p := ⟨b, o + i, none⟩) hb1).trans d1, (hW.cell (p := ⟨b, o + j, none⟩) hb1).trans d2⟩ : Below w.heap.size w W ∧ W.cell? ⟨b, o + i, none⟩ = some (.int .i64 x) ∧ W.cell? ⟨b, o + j, none⟩ = some (.int .i64 y)))
      have hbz : w.heap.size ≤ wr.heap.size := HBB.out.size
      go_wp2
      go_region_held3 (fun w' => Below w.heap.size w w' ∧ w'.cell? ⟨b, o + i, none⟩ = some (.int .i64 x) ∧ w'.cell? ⟨b, o + j, none⟩ = some (.int .i64 y))
        (first | exact HK.out _ hBF | exact HK.out _ (HBB.out.drewsN 1) | exact HK.out _ (HBB.out.alloc HBB.out.size _).drew | go_keep)
        (first
          | (refine step_app_int 22 rfl (.tmp 15) (.tmp 26) rfl Tryd.underlying22 infoInt _ w.heap.size _ _ (dn i) (x - y) rfl rfl (HOO.out.kept (below_alloc wr _).drew) (Box.new wr _ _) (by omega) (by simp; omega) ?_; intro v6 w6 hO6 hB6 _; have hBF := (HBB.out.alloc HBB.out.size _).drew.trans hB6))
      all_goals
        go_wp2
        go_roundg (n - (i + 1))
        case measure => have := HIJ.out; omega
        case rel => exact ⟨i + 1, by go_num, by omega, by have := HIJ.out; omega, by have := HIJ.out; omega, by rw [← HSi.out, HAi.out]; exact hO6, hBF⟩
    · obtain rfl : i = n := by omega
      rw [HDS.out] at hO
      obtain ⟨A1, c1, rfl, hr1⟩ := hO.rd
      have HB := Lib.hid hB
      have HR1 := Lib.hid hr1
      rw [HDL.out]
      clear hB hO hr1
      go_wp2
      go_ret
      exact ⟨HB.out, A1, c1, by rw [HDL.out]; rfl, HR1.out⟩
theorem difs_small {s : List Int} (h : vldW s = true) : ∀ k, k < (difs s).length → -1023 ≤ ix (difs s) k ∧ ix (difs s) k ≤ 1023 := fun k hk => by
  rw [difs_len] at hk
  rw [difs_ix s hk]
  exact difA_small h hk
end Go.Proofs.YteodljaphkpimaaDoor
