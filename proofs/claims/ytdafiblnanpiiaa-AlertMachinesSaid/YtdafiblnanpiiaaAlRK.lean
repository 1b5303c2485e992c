/- Walks over alert's reference: which tasks are kept. -/
import Derived.Test.YtdafiblnanpiiaaAlMv
namespace Go.Proofs.Ytdafiblnanpiiaa
open Go.RowKit
set_option linter.unusedSimpArgs false
set_option linter.unusedVariables false

section
variable {P : Program} {ops : Array Oper} {o : Oper} {a : Act} {Q : Exit → Act → World → Prop} {K : Act → World → Prop} {E : Prop}
theorem step_app_trips (T e : TypeId) (hgd : o.guard = none) (s x : Operand) (ho : o.op = .call { callee := .builtin .append, args := #[s, x], argTypes := #[T, T] })
    (hT : P.underlying T = some (.slice e)) (hI : (P.info? e).map (fun i => (i.zero, i.size, i.bytes)) = some (some (.agg #[.int .i64 0, .int .i64 0, .int .i64 0]), 3, 24))
    (W : World) (B : Nat) (v : Value) (l L : List (Int × Int × Int)) (A : Option Addr) (c : Nat) (hs : a.eval s = v) (hx : a.eval x = .slice A L.length c) (hown : OwnT W B e v l) (hr : RdT W W.heap.size A L) (hne : L ≠ []) (hlen : l.length ≤ 1000000) (hlen2 : L.length ≤ 1000000) (hB : B ≤ W.heap.size)
    (h : ∀ v' w', OwnT w' B e v' (l ++ L) → Below B W w' → Spared v (l.length * 3) W w' → Fresh v v' W.heap.size → K (a.put o.dst v') w') :
    if Region.wanted o (yielded ops a.tmps) = true then Oper.wp P o a W K Q else E := by
  have hw : Region.wanted o (yielded ops a.tmps) = true := by simp [Region.wanted, hgd]
  rw [if_pos hw]
  exact op_app_trips T e s x ho hT hI W B v l L A c hs hx hown hr hne hlen hlen2 hB h
theorem Spared.refl (v : Value) (k : Nat) (W : World) : Spared v k W W := ⟨World.grownBy.refl _ _, fun _ _ _ _ => rfl⟩
/-- 'append(v, s...)' of triples, s nil or not empty, at a step of a region that draws its order. -/
theorem step_app_trips0 (T e : TypeId) (hgd : o.guard = none) (s x : Operand) (ho : o.op = .call { callee := .builtin .append, args := #[s, x], argTypes := #[T, T] })
    (hT : P.underlying T = some (.slice e)) (hI : (P.info? e).map (fun i => (i.zero, i.size, i.bytes)) = some (some (.agg #[.int .i64 0, .int .i64 0, .int .i64 0]), 3, 24))
    (W : World) (B : Nat) (v : Value) (l L : List (Int × Int × Int)) (A : Option Addr) (c : Nat) (hs : a.eval s = v) (hx : a.eval x = .slice A L.length c) (hown : OwnT W B e v l) (hr : RdT W W.heap.size A L) (hne : (A = none ∧ c = 0 ∧ L = []) ∨ L ≠ []) (hlen : l.length ≤ 1000000) (hlen2 : L.length ≤ 1000000) (hB : B ≤ W.heap.size)
    (h : ∀ v' w', OwnT w' B e v' (l ++ L) → Below B W w' → Spared v (l.length * 3) W w' → K (a.put o.dst v') w') :
    if Region.wanted o (yielded ops a.tmps) = true then Oper.wp P o a W K Q else E := by
  rcases hne with ⟨rfl, rfl, rfl⟩ | hne
  · have hw : Region.wanted o (yielded ops a.tmps) = true := by simp [Region.wanted, hgd]
    rw [if_pos hw]
    obtain ⟨i0, hi, hz0, hz1, hz2⟩ := info_parts hI
    have hrun := run_append_owned_none (P := P) (w := W) B T o.type e i0 3 hT hi v l.length (cells3 l) hown
    have hx' : a.eval x = .slice none 0 0 := hx
    unfold Oper.wp
    simp [execOp, ho, resolve, invoke, builtin, hs, hx', hrun, Result.andThen]
    exact h _ _ (by rw [List.append_nil]; exact hown) (Below.refl _ _) (Spared.refl _ _ _)
  · exact step_app_trips T e hgd s x ho hT hI W B v l L A c hs hx hown hr hne hlen hlen2 hB (fun v' w' h1 h2 h3 _ => h v' w' h1 h2 h3)
end
theorem OwnT.rd0 {w : World} {B : Nat} {e : TypeId} {v : Value} {l : List (Int × Int × Int)} (h : OwnT w B e v l) (hv : (v = .slice none 0 0 ∧ l = []) ∨ l ≠ []) : ∃ A c, v = .slice A l.length c ∧ RdT w w.heap.size A l ∧ ((A = none ∧ c = 0 ∧ l = []) ∨ l ≠ []) := by
  rcases hv with ⟨rfl, rfl⟩ | hne
  · exact ⟨none, 0, rfl, .inl rfl, .inl ⟨rfl, rfl, rfl⟩⟩
  · obtain ⟨A, c, h1, h2⟩ := h.rd
    exact ⟨A, c, h1, h2, .inr hne⟩
theorem ne_blk1 {n c h : Nat} : (Value.slice (some ⟨h, 0, none⟩) n c).ownBlock ≠ some (h + 1) := by simp [Value.ownBlock]
theorem ne_blk2 {n c h : Nat} : (Value.slice (some ⟨h + 1, 0, none⟩) n c).ownBlock ≠ some h := by simp [Value.ownBlock]
theorem own_empty {W : World} {B g : Nat} {e : TypeId} (h : Box W g e #[]) (hg : B ≤ g) : OwnT W B e (.slice (some ⟨g, 0, none⟩) 0 0) [] :=
  ⟨rfl, .inr ⟨g, 0, #[], rfl, hg, h, Nat.le_refl _, by unfold maxLen; omega, rfl, rfl⟩⟩

theorem box_e1 {w0 : World} {s : Nat} {e : TypeId} {cs : Array Value} (h : w0.heap.size = s) : Box (w0.alloc (.cells cs e)) s e cs := by subst h; exact Box.new _ _ _
theorem box_e2 {w0 : World} {s : Nat} {e : TypeId} {cs : Array Value} {o : Obj} (h : w0.heap.size = s) : Box ((w0.alloc (.cells cs e)).alloc o) s e cs := by subst h; exact (Box.new _ _ _).alloc _
theorem own_e1 {w0 : World} {s B : Nat} {e : TypeId} (h : w0.heap.size = s) (hB : B ≤ s) : OwnT (w0.alloc (.cells #[] e)) B e (.slice (some ⟨s, 0, none⟩) 0 0) [] := own_empty (box_e1 h) hB
theorem own_e2 {w0 : World} {s B : Nat} {e : TypeId} {o : Obj} (h : w0.heap.size = s) (hB : B ≤ s) : OwnT ((w0.alloc (.cells #[] e)).alloc o) B e (.slice (some ⟨s, 0, none⟩) 0 0) [] := own_empty (box_e2 h) hB

set_option maxRecDepth 100000 in
set_option maxHeartbeats 8000000 in
theorem refKept_any (A : Option Addr) (c : Nat) (L : List (Int × Int × Int)) (w : World) (hr : RdT w w.heap.size A L) (hl : L.length ≤ 1125899906842624) :
    Calls Try.prog 46 #[.slice A L.length c] w (OutI (SlackE L) (if vldT L then kepI L L.length else []) w) := by
  have HV := Lib.hid (refValid_any A c L w hr hl)
  have H1 : Hid (vldT L = false → ∀ W, Below w.heap.size w W → OutI (SlackE L) (if vldT L then kepI L L.length else []) w (.returned (.tuple #[.slice none 0 0, .int .i64 80])) W) := Lib.hid (fun h W hW => ⟨hW, none, 0, by rw [h, SlackE_no h]; rfl, by rw [h]; exact .inl rfl⟩)
  have H2 : Hid (vldT L = true → ∀ W B v, Below w.heap.size w W → OwnI W B 3 v (kepI L L.length) → OutI (SlackE L) (if vldT L then kepI L L.length else []) w (.returned (.tuple #[v, .int .i64 0])) W) := Lib.hid (fun h W B v hW h2 => by
    obtain ⟨A2, c2, rfl, h3⟩ := h2.rd
    exact ⟨hW, A2, c2, by rw [h, SlackE_yes h, if_pos rfl], by rw [h]; exact h3⟩)
  have HR := Lib.hid hr
  clear hr
  generalize OutI (SlackE L) (if vldT L then kepI L L.length else []) w = Q at *
  cases hv : vldT L <;> rw [hv] at HV
  · have HV2 := Lib.hid hv; clear hv H2
    generalize L.length = n at *
    go_enter Try.func46, Try.ntmps46
    go_wp2_with (go_at_call 22; refine HV.out.mono ?_; rintro e w1 ⟨rfl, h1⟩)
    exact H1.out HV2.out _ h1
  · have hok := okT_of hv
    have HMO := Lib.hid (kepM_ok L hok)
    have hn12 := hok.1.2
    have hn1 := hok.1.1
    have H2' := Lib.hid (fun W B v => H2.out hv W B v)
    clear hok H1 H2 hv
    have HIS := Lib.hid (kepI_succ L)
    have HTS := Lib.hid (kepT_succ L)
    have HIL := Lib.hid (kepI_len L)
    have HTL := Lib.hid (kepT_len L)
    have HX : Hid (∀ i, tx L i = (ta L i, tb L i, tc L i)) := Lib.hid (fun _ => rfl)
    have H0 : Hid (kepI L 0 = [] ∧ kepT L 0 = []) := Lib.hid ⟨rfl, rfl⟩
    generalize kepI L = ki at *
    generalize kepT L = kt at *
    generalize hn : L.length = n at *
    have HN := Lib.hid hn; clear hn
    go_enter Try.func46, Try.ntmps46
    go_wp2_with (go_at_call 22; refine HV.out.mono ?_; rintro e w1 ⟨rfl, h1⟩; have HB1 := Lib.hid h1; clear h1)
    go_loopg [4, 5, 6] n (fun k s v t wr => ∃ i : Nat, t = .int .i64 i ∧ i ≤ n ∧ n - i ≤ k ∧ Below w1.heap.size w1 wr ∧ OwnI wr w1.heap.size 3 s (ki i) ∧ OwnT wr w1.heap.size 36 v (kt i) ∧ Aside ((v = .slice none 0 0 ∧ kt i = []) ∨ kt i ≠ []))
    case atStart => exact ⟨0, rfl, by omega, by omega, Below.refl _ _, by rw [H0.out.1]; exact OwnI.nil _ _ _, by rw [H0.out.2]; exact OwnT.nil _ _ _, (.inl ⟨rfl, H0.out.2⟩ : _ ∨ kt 0 ≠ [])⟩
    case round =>
      obtain ⟨i, rfl, hi, hk, hB, hO, hO2, HA⟩ := hrel
      by_cases hlt : i < n
      · obtain ⟨bb, o, rfl, hbb, c1, c2, c3⟩ := HR.out.at_ (k := i) (by rw [HN.out]; exact hlt)
        have hbb2 : bb < wr.heap.size := by have := (HB1.out.trs hB).size; omega
        rw [← (HB1.out.trs hB).cell hbb] at c1 c2 c3
        have HCE := Lib.hid (fun W (hW : Below wr.heap.size wr W) => (show Below wr.heap.size wr W ∧ W.cell? ⟨bb, o + i * 3, none⟩ = some (.int .i64 (ta L i)) ∧ W.cell? ⟨bb, o + i * 3 + 1, none⟩ = some (.int .i64 (tb L i)) ∧ W.cell? ⟨bb, o + i * 3 + 2, none⟩ = some (.int .i64 (tc L i)) from
          ⟨hW, (hW.cell (p := ⟨bb, o + i * 3, none⟩) hbb2).trans c1, (hW.cell (p := ⟨bb, o + i * 3 + 1, none⟩) hbb2).trans c2, (hW.cell (p := ⟨bb, o + i * 3 + 2, none⟩) hbb2).trans c3⟩))
        have HMI := Lib.hid (HMO.out i hlt)
        have HISI := Lib.hid (HIS.out i)
        have HTSI := Lib.hid (HTS.out i)
        rw [HX.out] at HMI HISI HTSI
        have hil := HIL.out i
        have htl := HTL.out i
        have hktl : (kt i).length ≤ 12 := by omega
        clear htl
        have HSL := Lib.hid (fun A c W (h : RdT W W.heap.size A (kt i ++ [(ta L i, tb L i, tc L i)])) => refslack_any A c (kt i ++ [(ta L i, tb L i, tc L i)]) W h HMI.out)
        clear HMI
        have HG := Lib.hid (And.intro hB (And.intro hO hO2))
        have hiB := hB.size
        generalize slk (kt i ++ [(ta L i, tb L i, tc L i)]) = sl at *
        generalize ta L i = x at *
        generalize tb L i = y at *
        generalize tc L i = z at *
        have hi0 : (i : Int) < (n : Int) := by omega
        clear hB hO c1 c2 c3
        obtain ⟨Ak, ck, rfl, hrk, hnk⟩ := hO2.rd0 HA.out
        have HRK := Lib.hid hrk
        have HNK := Lib.hid hnk
        clear hO2 hrk hnk
        go_wp2
        go_region_held3 (fun w' => Below wr.heap.size wr w' ∧ w'.cell? ⟨bb, o + i * 3, none⟩ = some (.int .i64 x) ∧ w'.cell? ⟨bb, o + i * 3 + 1, none⟩ = some (.int .i64 y) ∧ w'.cell? ⟨bb, o + i * 3 + 2, none⟩ = some (.int .i64 z))
            (first | exact HCE.out _ hBF | exact HCE.out _ h2 | exact HCE.out _ ((Below.refl _ _).drewsN 1) | exact HCE.out _ ((‹Below wr.heap.size wr _ ∧ _›).1.trs (below_alloc _ _)) | go_keep)
            (first
              | (refine step_app_trips0 22 36 rfl (.tmp 17) (.tmp 18) rfl Try.underlying22 infoTask _ wr.heap.size _ [] (kt i) Ak ck rfl rfl (by first | exact own_e1 (by simp) (by simp) | exact own_e2 (by simp) (by simp)) (HRK.out.on (by first | exact ((Below.refl _ _).drewsN 1).trs (below_alloc _ _) | exact (((Below.refl _ _).drewsN 1).trs (below_alloc _ _)).trs (below_alloc _ _))) HNK.out (by simp) (by omega) (by simp <;> omega) ?_; intro v2 w2 hO2 hB2 hS2; rw [List.nil_append] at hO2; have h2 : Below wr.heap.size wr w2 := (by first | exact (((Below.refl _ _).drewsN 1).trs (below_alloc _ _)).trans hB2 | exact ((((Below.refl _ _).drewsN 1).trs (below_alloc _ _)).trs (below_alloc _ _)).trans hB2))
              | (refine step_app_trip 22 36 rfl (.tmp 19) (.tmp 24) rfl Try.underlying22 infoTask _ wr.heap.size _ v2 (kt i) x y z rfl rfl (by with_reducible exact hO2.kept (below_alloc w2 _)) (Box.new _ _ _) (by omega) (by have := h2.size; simp; omega) ?_; intro v3 w3 hO3 hB3 _ _; have hBF := (h2.trs (below_alloc w2 _)).trans hB3)
              | (refine step_app_trip 22 36 rfl (.tmp 19) (.tmp 24) rfl Try.underlying22 infoTask _ wr.heap.size _ v2 (kt i) x y z rfl rfl (by with_reducible exact hO2) (Box.spared (by first | exact box_e1 (by simp) | exact box_e2 (by simp)) hS2 (by first | exact ne_blk1 | exact ne_blk2)) (by omega) h2.size ?_; intro v3 w3 hO3 hB3 _ _; have hBF := h2.trans hB3))
        all_goals
          have HO3 := Lib.hid hO3
          have HBF := Lib.hid hBF
          clear hO3 hBF hB3 hO2 hB2 hS2 h2
          obtain ⟨A3, c3, rfl, r3⟩ := HO3.out.rd
          have HR3 := Lib.hid (HSL.out _ c3 _ r3)
          clear r3
          have HLN : Hid ((kt i ++ [(x, y, z)]).length = (kt i).length + 1) := Lib.hid (by simp)
          generalize (kt i ++ [(x, y, z)]).length = k1 at *
          by_cases hs : 0 ≤ sl
          · have HS := Lib.hid hs
            have hds : decide (0 ≤ sl) = true := by rw [decide_eq_true_eq]; exact hs
            have hBz := (HG.out.1.trs HBF.out).size
            clear hs
            go_wp2_with (first
              | (go_at_call 62; refine HR3.out.mono ?_; rintro e w4 ⟨rfl, rfl⟩)
              | (refine wp_app_int 32 rfl (.tmp 29) (.tmp 31) rfl Try.underlying32 infoInt w3 w1.heap.size _ (ki i) (i : Int) rfl rfl (HG.out.2.1.kept HBF.out) (by omega) hBz ?_; intro v6 w6 hO6 hB6 hS6))
            go_roundg (n - (i + 1))
            case measure => omega
            case rel =>
              refine ⟨i + 1, by go_num, by omega, by omega, (HG.out.1.trs HBF.out).trans hB6, by rw [HISI.out, if_pos HS.out]; exact hO6, ?_, ?_⟩
              · rw [HTSI.out, if_pos HS.out]
                exact (HO3.out.less HG.out.1.size).spared hS6 (own_ne_own (HG.out.2.1.kept HBF.out) HO3.out (by decide))
              · show _ ∨ kt (i + 1) ≠ []
                rw [HTSI.out, if_pos HS.out]; exact .inr (by simp)
          · have HS := Lib.hid hs
            have hds : decide (0 ≤ sl) = false := by rw [decide_eq_false_iff_not]; exact hs
            clear hs
            go_wp2_with (go_at_call 62; refine HR3.out.mono ?_; rintro e w4 ⟨rfl, rfl⟩)
            go_roundg (n - (i + 1))
            case measure => omega
            case rel =>
              refine ⟨i + 1, by go_num, by omega, by omega, HG.out.1.trs HBF.out, by rw [HISI.out, if_neg (by have := HS.out; omega)]; exact HG.out.2.1.kept HBF.out, ?_, ?_⟩
              · rw [HTSI.out, if_neg (by have := HS.out; omega)]
                exact HG.out.2.2.kept HBF.out
              · show _ ∨ kt (i + 1) ≠ []
                rw [HTSI.out, if_neg (by have := HS.out; omega)]; exact HA.out
      · obtain rfl : n = i := by omega
        have HO := Lib.hid hO
        have HBB := Lib.hid hB
        clear hO hB hO2
        go_wp2
        exact H2'.out _ _ _ (HB1.out.trs HBB.out) HO.out
end Go.Proofs.Ytdafiblnanpiiaa
