/- Walks over package alert: clones of tasks; which tasks are kept. -/
import Derived.Test.YtdafiblnanpiiaaAlX
namespace Go.Proofs.Ytdafiblnanpiiaa
open Go.RowKit
set_option linter.unusedSimpArgs false
set_option linter.unusedVariables false

theorem OwnT.empty (w : World) (e : TypeId) : OwnT (w.alloc (.cells #[] e)) w.heap.size e (.slice (some ⟨w.heap.size, 0, none⟩) 0 0) [] :=
  ⟨rfl, .inr ⟨w.heap.size, 0, #[], rfl, Nat.le_refl _, heap_alloc_new w _, Nat.le_refl _, by unfold maxLen; omega, rfl, rfl⟩⟩

theorem CloneT_nil (w : World) :
    Calls Try.prog 66 #[.slice none 0 0] w fun e w' => e = .returned (.slice none 0 0) ∧ w = w' := by
  have hq := fun W : World => Lib.run_eql_slice_nil (P := Try.prog) (w := W)
  go_enter Try.func66, Try.ntmps66
  go_wp2
  go_ret
  exact ⟨rfl, rfl⟩
theorem CloneT_any (A : Option Addr) (c : Nat) (L : List (Int × Int × Int)) (w : World) (hr : RdT w w.heap.size A L) (hne : L ≠ []) (hl : L.length ≤ 1000000) :
    Calls Try.prog 66 #[.slice A L.length c] w fun e w' => ∃ v, e = .returned v ∧ OwnT w' w.heap.size 36 v L ∧ Below w.heap.size w w' := by
  have hA : ∃ b o, A = some ⟨b, o, none⟩ := by
    rcases hr with h | ⟨b, o, h, _⟩
    · exact absurd h hne
    · exact ⟨b, o, h⟩
  have HR := Lib.hid hr; clear hr
  have HN := Lib.hid hne; clear hne
  obtain ⟨b, o, rfl⟩ := hA
  have hq := fun W : World => Lib.run_eql_slice_nil (P := Try.prog) (w := W)
  go_enter Try.func66, Try.ntmps66
  have HO := Lib.hid (OwnT.empty w 36)
  have HR1 := Lib.hid (HR.out.on (below_alloc w (.cells #[] 36)))
  go_wp2_with (at_builtin; refine wp_app_trips 22 36 rfl (.tmp 5) (.tmp 6) rfl Try.underlying22 infoTask _ w.heap.size (.slice (some ⟨w.heap.size, 0, none⟩) 0 0) [] L (some ⟨b, o, none⟩) c rfl rfl HO.out HR1.out HN.out (by decide) hl (by simp) ?_; intro v' w' hO3 hB3 _ _)
  go_ret
  exact ⟨v', rfl, hO3, (below_alloc _ _).trans hB3⟩

theorem CloneT_row (B : Nat) (v : Value) (l : List (Int × Int × Int)) (w : World) (ho : OwnT w B 36 v l) (hv : (v = .slice none 0 0 ∧ l = []) ∨ l ≠ []) (hl : l.length ≤ 1000000) :
    Calls Try.prog 66 #[v] w fun e w' => ∃ v, e = .returned v ∧ OwnT w' w.heap.size 36 v l ∧ Below w.heap.size w w' := by
  rcases hv with ⟨rfl, rfl⟩ | hne
  · exact (CloneT_nil w).mono fun e w' ⟨h1, h2⟩ => by subst h2; exact ⟨_, h1, OwnT.nil _ _ _, Below.refl _ _⟩
  · obtain ⟨A, c, rfl, hr⟩ := ho.rd
    exact CloneT_any A c l w hr hne hl
theorem CloneT_on {W0 : World} (B : Nat) (v : Value) (l : List (Int × Int × Int)) (ho : OwnT W0 B 36 v l) (hv : (v = .slice none 0 0 ∧ l = []) ∨ l ≠ []) (hl : l.length ≤ 1000000) (W : World) (hW : Below W0.heap.size W0 W) :
    Calls Try.prog 66 #[v] W fun e w' => ∃ v, e = .returned v ∧ OwnT w' W0.heap.size 36 v l ∧ Below W.heap.size W w' ∧ Below W0.heap.size W0 w' :=
  (CloneT_row B v l W (ho.kept hW) hv hl).mono fun e w' ⟨v, h1, h2, h3⟩ => ⟨v, h1, h2.less hW.size, h3, hW.trs h3⟩
theorem can_row (B : Nat) (v : Value) (l : List (Int × Int × Int)) (w : World) (ho : OwnT w B 36 v l) (hok : okT l) :
    Calls Try.prog 67 #[v] w fun e w' => e = .returned (.bool (decide (0 ≤ slk l))) ∧ Below w.heap.size w w' := by
  obtain ⟨A, c, rfl, hr⟩ := ho.rd
  exact can_any A c l w hr hok
theorem keep3 {W0 W : World} {b : Nat} {x y z : Value} (hB : Below W0.heap.size W0 W) (hb : b < W0.heap.size) (j1 : W0.cell? ⟨b, 0, none⟩ = some x) (j2 : W0.cell? ⟨b, 1, none⟩ = some y) (j3 : W0.cell? ⟨b, 2, none⟩ = some z) :
    Below W0.heap.size W0 W ∧ W.cell? ⟨b, 0, none⟩ = some x ∧ W.cell? ⟨b, 1, none⟩ = some y ∧ W.cell? ⟨b, 2, none⟩ = some z :=
  ⟨hB, (hB.cell (p := ⟨b, 0, none⟩) hb).trans j1, (hB.cell (p := ⟨b, 1, none⟩) hb).trans j2, (hB.cell (p := ⟨b, 2, none⟩) hb).trans j3⟩

/-- a list of numbers, and an error -/
def OutI (E : Int) (K : List Int) (w : World) (e : Ending) (w' : World) : Prop := Below w.heap.size w w' ∧ ∃ A c, e = .returned (.tuple #[.slice A K.length c, .int .i64 E]) ∧ RdI w' w'.heap.size A K
def IsL (K : List Int) (v : Value) (w : World) : Prop := ∃ A c, v = .slice A K.length c ∧ RdI w w.heap.size A K
theorem OutI.of_told {L : List (Int × Int × Int)} {K : List Int} {w w1 w' : World} {e : Ending} (hB0 : Below w.heap.size w w1) (h : Told (.slice none 0 0) L (IsL K) w1 e w') : OutI (SlackE L) (if vldT L then K else []) w e w' := by
  obtain ⟨hB, h⟩ := h
  refine ⟨hB0.trs hB, ?_⟩
  rcases h with ⟨hv, rfl⟩ | ⟨hv, v, rfl, A, c, rfl, hr⟩
  · rw [hv, SlackE_no hv]; exact ⟨none, 0, rfl, .inl rfl⟩
  · rw [hv, SlackE_yes hv]; exact ⟨A, c, rfl, hr⟩
abbrev KeptR (L : List (Int × Int × Int)) (v : Value) (w : World) : Prop := IsL (kepI L L.length) v w

set_option maxRecDepth 100000 in
set_option maxHeartbeats 8000000 in
theorem Kept1_any (A : Option Addr) (c b : Nat) (L : List (Int × Int × Int)) (w : World) (hr : RdT w w.heap.size A L) (hok : okT L) (hcell : w.cell? ⟨b, 0, none⟩ = some (.slice A L.length c)) :
    Calls Try.prog 65 #[.pointer (some ⟨b, 0, none⟩)] w fun e w' => Below w.heap.size w w' ∧ ∃ v, e = .returned v ∧ KeptR L v w' := by
  have HR := Lib.hid hr; clear hr
  have HMO := Lib.hid (kepM_ok L hok)
  have hn12 := hok.1.2
  have hn1 := hok.1.1
  clear hok
  have HK : Hid (∀ v W, OwnI W w.heap.size 3 v (kepI L L.length) → KeptR L v W) := Lib.hid (fun v W h => by
    obtain ⟨B, d, h1, h2⟩ := h.rd
    exact ⟨B, d, h1, h2⟩)
  have HIS := Lib.hid (kepI_succ L)
  have HTS := Lib.hid (kepT_succ L)
  have HIL := Lib.hid (kepI_len L)
  have HTL := Lib.hid (kepT_len L)
  generalize hn : L.length = n at *
  have HN := Lib.hid hn; clear hn
  go_enter Try.func65, Try.ntmps65
  go_wp2
  go_loopg [2, 3, 9] n (fun k s v t wr => ∃ i : Nat, t = .int .i64 i ∧ i ≤ n ∧ n - i ≤ k ∧ Below w.heap.size w wr ∧ OwnI wr w.heap.size 3 s (kepI L i) ∧ OwnT wr w.heap.size 36 v (kepT L i) ∧ Aside ((v = .slice none 0 0 ∧ kepT L i = []) ∨ kepT L i ≠ []))
  case atStart => exact ⟨0, rfl, by omega, by omega, Below.refl _ _, OwnI.nil _ _ _, OwnT.nil _ _ _, (.inl ⟨rfl, rfl⟩ : _ ∨ kepT L 0 ≠ [])⟩
  case round =>
    obtain ⟨i, rfl, hi, hk, hB, hO, hO2, HA⟩ := hrel
    by_cases hlt : i < n
    · obtain ⟨bb, o, rfl, hbb, c1, c2, c3⟩ := HR.out.at_ (k := i) (by rw [HN.out]; exact hlt)
      rw [← hB.cell hbb] at c1 c2 c3
      have HMI := Lib.hid (HMO.out i hlt)
      have HISI := Lib.hid (HIS.out i)
      have HTSI := Lib.hid (HTS.out i)
      have hil := HIL.out i
      have htl := HTL.out i
      have HX := Lib.hid (show tx L i = (ta L i, tb L i, tc L i) from rfl)
      have hkl : (kepT L i).length ≤ 12 := by omega
      have hb0 := Box.new wr 36 #[.int .i64 (ta L i), .int .i64 (tb L i), .int .i64 (tc L i)]
      have hBW := hB.trs (below_alloc wr (.cells #[.int .i64 (ta L i), .int .i64 (tb L i), .int .i64 (tc L i)] 36))
      have hO1 := hO.kept (below_alloc wr (.cells #[.int .i64 (ta L i), .int .i64 (tb L i), .int .i64 (tc L i)] 36))
      have hO21 := hO2.kept (below_alloc wr (.cells #[.int .i64 (ta L i), .int .i64 (tb L i), .int .i64 (tc L i)] 36))
      have hsz0 : wr.heap.size < (wr.alloc (.cells #[.int .i64 (ta L i), .int .i64 (tb L i), .int .i64 (tc L i)] 36)).heap.size := by simp
      have HCl := Lib.hid (CloneT_on w.heap.size _ (kepT L i) hO21 HA.out (by omega))
      have HCan := Lib.hid (fun W B v h => can_row B v _ W h HMI.out)
      have HG := Lib.hid (And.intro hBW (And.intro hO1 hO21))
      clear hBW hO1 hO21 hO hO2 hB
      have HX2 := HX
      rw [HX.out] at HCan HISI HTSI
      generalize hgd : decide (0 ≤ slk (kepT L i ++ [(ta L i, tb L i, tc L i)])) = d at *
      have HISI2 : Hid (kepI L (i + 1) = if d = true then kepI L i ++ [(i : Int)] else kepI L i) := Lib.hid (by rw [HISI.out, ← hgd]; simp)
      have HTSI2 : Hid (kepT L (i + 1) = if d = true then kepT L i ++ [(ta L i, tb L i, tc L i)] else kepT L i) := Lib.hid (by rw [HTSI.out, ← hgd]; simp)
      clear HISI HTSI hgd HX HX2 HMI
      go_wp2
      generalize wr.alloc (.cells #[.int .i64 (ta L i), .int .i64 (tb L i), .int .i64 (tc L i)] 36) = W0 at *
      have j1 := hb0.cell 0
      have j2 := hb0.cell 1
      have j3 := hb0.cell 2
      simp at j1 j2 j3
      generalize ta L i = x at *
      generalize tb L i = y at *
      generalize tc L i = z at *
      generalize kepT L i = kt at *
      generalize kepI L i = ki at *
      go_region_held3 (fun w' => Below W0.heap.size W0 w' ∧ w'.cell? ⟨wr.heap.size, 0, none⟩ = some (.int .i64 x) ∧ w'.cell? ⟨wr.heap.size, 1, none⟩ = some (.int .i64 y) ∧ w'.cell? ⟨wr.heap.size, 2, none⟩ = some (.int .i64 z))
        (first | exact keep3 hBF hsz0 j1 j2 j3 | exact keep3 ((‹Below W0.heap.size W0 _ ∧ _›).1.trs h2) hsz0 j1 j2 j3 | exact keep3 ((Below.refl _ _).drewsN 1) hsz0 j1 j2 j3 | exact keep3 ((‹Below W0.heap.size W0 _ ∧ _›).1.trs (below_alloc _ _)) hsz0 j1 j2 j3 | go_keep)
        (first
          | (go_at_call 66; refine (HCl.out _ (‹Below W0.heap.size W0 _ ∧ _›).1).mono ?_; rintro e w2 ⟨v2, rfl, hO2, h2, h4⟩)
          | (refine step_app_trip 22 36 rfl (.tmp 15) (.tmp 17) rfl Try.underlying22 infoTask _ W0.heap.size _ v2 kt x y z rfl rfl (hO2.kept (below_alloc w2 _)) (Box.new _ _ _) (by omega) (by have := h4.size; simp; omega) ?_; intro v3 w3 hO3 hB3 _ _; have hBF := (h4.trs (below_alloc w2 _)).trans hB3)
          | (refine step_app_trip 22 36 rfl (.tmp 15) (.tmp 17) rfl Try.underlying22 infoTask _ W0.heap.size _ v2 kt x y z rfl rfl hO2 (Box.on (hb := h2) (by exact Box.new _ _ _)) (by omega) h4.size ?_; intro v3 w3 hO3 hB3 _ _; have hBF := h4.trans hB3))
      all_goals
        have HO3 := Lib.hid hO3
        have HBF := Lib.hid hBF
        clear hO3 hBF hB3 h2 hO2 h4
        cases d
        · go_wp2_with (go_at_call 67; refine (HCan.out _ _ _ HO3.out).mono ?_; rintro e w4 ⟨rfl, h5⟩)
          go_roundg (n - (i + 1))
          case measure => omega
          case rel =>
            refine ⟨i + 1, by go_num, by omega, by omega, (HG.out.1.trs HBF.out).trs h5, ?_, ?_, ?_⟩
            · rw [HISI2.out, if_neg (by simp)]; exact (HG.out.2.1.kept HBF.out).kept h5
            · rw [HTSI2.out, if_neg (by simp)]; exact (HG.out.2.2.kept HBF.out).kept h5
            · show _ ∨ kepT L (i + 1) ≠ []
              rw [HTSI2.out, if_neg (by simp)]; exact HA.out
        · go_wp2_with (first
            | (go_at_call 67; refine (HCan.out _ _ _ HO3.out).mono ?_; rintro e w4 ⟨rfl, h5⟩; have HO5 := Lib.hid ((HG.out.2.1.kept HBF.out).kept h5); have HSZ := Lib.hid ((HG.out.1.trs HBF.out).trs h5); have hz4 := HSZ.out.size)
            | (refine wp_app_int 32 rfl (.tmp 21) (.tmp 23) rfl Try.underlying32 infoInt w4 w.heap.size _ ki (i : Int) rfl rfl HO5.out (by omega) hz4 ?_; intro v6 w6 hO6 hB6 hS6))
          go_roundg (n - (i + 1))
          case measure => omega
          case rel =>
            refine ⟨i + 1, by go_num, by omega, by omega, HSZ.out.trans hB6, ?_, ?_, ?_⟩
            · rw [HISI2.out, if_pos trivial]; exact hO6
            · rw [HTSI2.out, if_pos trivial]
              exact ((HO3.out.kept h5).less (HG.out.1.size)).spared hS6 (own_ne_own HO5.out (HO3.out.kept h5) (by decide))
            · show _ ∨ kepT L (i + 1) ≠ []
              rw [HTSI2.out, if_pos trivial]; exact .inr (by simp)
    · obtain rfl : i = n := by omega
      have HO := Lib.hid hO
      clear hO hO2
      go_wp2
      go_ret
      exact ⟨hB, _, rfl, HK.out _ _ HO.out⟩

theorem Kept_any (A : Option Addr) (c : Nat) (L : List (Int × Int × Int)) (w : World) (hr : RdT w w.heap.size A L) (hl : L.length ≤ 1125899906842624) :
    Calls Try.prog 23 #[.slice A L.length c] w (OutI (SlackE L) (if vldT L then kepI L L.length else []) w) := by
  have hB0 := below_alloc w (.cells #[.slice A L.length c] 22)
  have hcell := cell_one w (.slice A L.length c) 22
  have HT := Lib.hid ((toldS_any 65 #[.pointer (some ⟨w.heap.size, 0, none⟩)] A c L (IsL (kepI L L.length)) _ (hr.on hB0) hl (enters_of Try.func65 (by kernel_rfl) rfl) (fun hv W hW =>
    Kept1_any A c w.heap.size L W ((hr.on hB0).on hW) (okT_of hv) ((hW.cell (p := ⟨w.heap.size, 0, none⟩) (by simp)).trans hcell))).mono fun e w' h => (⟨h, OutI.of_told hB0 h⟩ : Told (.slice none 0 0) L (IsL (kepI L L.length)) _ e w' ∧ OutI (SlackE L) (if vldT L then kepI L L.length else []) w e w'))
  unfold Told at HT
  generalize OutI (SlackE L) (if vldT L then kepI L L.length else []) w = Q at *
  clear hr hcell
  generalize IsL (kepI L L.length) = R at *
  generalize L.length = n at *
  go_enter Try.func23, Try.ntmps23
  go_wp2_with (go_at_call 64; refine HT.out.mono ?_; rintro e w' ⟨⟨hB, ⟨hv, rfl⟩ | ⟨hv, v, rfl, hR⟩⟩, hQ⟩ <;> (have HQ := Lib.hid hQ; clear hQ hv))
  · exact HQ.out
  · exact HQ.out
end Go.Proofs.Ytdafiblnanpiiaa
