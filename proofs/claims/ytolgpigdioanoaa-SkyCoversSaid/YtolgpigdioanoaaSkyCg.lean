/- Walks over package sky: the closure that looks for whole cells. -/
import Derived.Test.YtolgpigdioanoaaSkyCf
import Derived.Test.YtolgpigdioanoaaLibPf
namespace Go.Proofs.Ytolgpigdioanoaa
open Go.RowKit
set_option linter.unusedSimpArgs false
set_option linter.unusedVariables false

/-- a region loaded behind a guard that holds -/
theorem wpList_load_reg_g {ops : Array Oper} {rest : List Oper} {o : Oper} {a : Act} {w : World} {Q : Exit → Act → World → Prop} (hw : Region.wanted o (yielded ops a.tmps) = true) (x : Operand) (ho : o.op = .load 98 x)
    (g : Nat) (hx : a.eval x = .pointer (some ⟨g, 0, none⟩)) (S : Px) (hg : BoxR w g S) (h : wpList Try.prog ops Q rest (a.put o.dst (.agg (rgA S))) w) : wpList Try.prog ops Q (o :: rest) a w := by
  refine wpList_step fun K hK => ?_
  rw [if_pos hw]
  exact wp_load_row 98 x ho g hx 98 (rgA S) (0, 0) _ hg Try.underlying98 rfl (by rw [infoReg, rgA_size]) (hK _ _ h)
theorem infoCel : (Try.prog.info? 60).map (fun i => (i.zero, i.size, i.bytes)) = some (some (.agg #[.int .i64 0, .int .i64 0]), 2, 16) := by kernel_rfl
def lookV (g : Nat) : Value := .func (.func 134) #[] #[.pointer (some ⟨g, 0, none⟩), .pointer (some ⟨g + 1, 0, none⟩), .pointer (some ⟨g + 2, 0, none⟩)]
/-- where cells' variables lie: the region, the list, the closure -/
def CSt (W : World) (g : Nat) (S : Px) (v : Value) (l : List (Int × Int)) : Prop :=
  BoxR W g S ∧ Box W (g + 1) 44 #[v] ∧ OwnP W (g + 3) 60 v l ∧ Box W (g + 2) 99 #[lookV g] ∧ g + 3 ≤ W.heap.size
theorem CSt.on {W W' : World} {g : Nat} {S : Px} {v : Value} {l : List (Int × Int)} (h : CSt W g S v l) (hb : Below W.heap.size W W') : CSt W' g S v l :=
  ⟨h.1.on hb, h.2.1.on hb, h.2.2.1.kept hb, h.2.2.2.1.on hb, Nat.le_trans h.2.2.2.2 hb.size⟩
/-- what lies elsewhere stays, and is no part of the list -/
def KeepA (g : Nat) (v v' : Value) (W w' : World) : Prop := ∀ k, k < W.heap.size → k ≠ g + 1 → v.ownBlock ≠ some k → w'.heap[k]? = W.heap[k]? ∧ v'.ownBlock ≠ some k
theorem KeepA.trans {g : Nat} {v v1 v2 : Value} {W W1 W2 : World} (h1 : KeepA g v v1 W W1) (hs : W.heap.size ≤ W1.heap.size) (h2 : KeepA g v1 v2 W1 W2) : KeepA g v v2 W W2 := fun k hk hne hv => by
  obtain ⟨a, b⟩ := h1 k hk hne hv
  obtain ⟨c, d⟩ := h2 k (by omega) hne b
  exact ⟨c.trans a, d⟩
theorem KeepA.below {g : Nat} {v : Value} {W W1 : World} (h : Below W.heap.size W W1) : KeepA g v v W W1 := fun k hk hne hv => ⟨h.block k hk, hv⟩
/-- what a look does -/
def LookQ (g : Nat) (S : Px) (v : Value) (l' : List (Int × Int)) (W : World) (e : Ending) (w' : World) : Prop :=
  e = .returned (.tuple #[]) ∧ Below g W w' ∧ ∃ v', CSt w' g S v' l' ∧ KeepA g v v' W w'
/-- the list one longer -/
theorem CSt.app {W w' : World} {g : Nat} {S : Px} {v v' : Value} {l l' : List (Int × Int)} {n : Nat} (h : CSt W g S v l) (hO : OwnP w' (g + 3) 60 v' l') (hB : Below (g + 3) W w') (hS : Spared v n W w') (hF : Fresh v v' W.heap.size) :
    Below g W (w'.setCell ⟨g + 1, 0, none⟩ v') ∧ CSt (w'.setCell ⟨g + 1, 0, none⟩ v') g S v' l' ∧ KeepA g v v' W (w'.setCell ⟨g + 1, 0, none⟩ v') := by
  obtain ⟨h1, h2, h3, h4, h5⟩ := h
  refine ⟨(hB.mono (by omega)).setCell (p := ⟨g + 1, 0, none⟩) (by simp) v', ⟨?_, ?_, hO.far (p := ⟨g + 1, 0, none⟩) (by simp) v', ?_, ?_⟩, fun k hk hne hv => ⟨?_, ?_⟩⟩
  · exact Box.far (h1.keep hB (by omega)) (p := ⟨g + 1, 0, none⟩) (by simp) v'
  · have := (h2.keep hB (by omega)).set_ 0 v'
    simpa using this
  · exact (h4.keep hB (by omega)).far (p := ⟨g + 1, 0, none⟩) (by simp) v'
  · have := hB.size; simp; omega
  · exact (Below.heap_setCell w' ⟨g + 1, 0, none⟩ v' k hne).trans (hS.by_.block k hk (by first | exact hv | exact fun e => hv e.symm))
  · intro e
    rcases hF k e with h | h
    · exact hv h
    · omega

set_option maxRecDepth 100000 in
set_option maxHeartbeats 4000000 in
theorem look_yes (S : Px) (g h p : Nat) (v : Value) (l : List (Int × Int)) (W : World) (hh : h ≤ 4) (hp : (p + 1) * 4 ^ h ≤ 3072) (hl : l.length ≤ 10000) (hC : CSt W g S v l) (ha : allP S (p * 4 ^ h) (4 ^ h) = true) :
    Calls Try.prog 134 #[.agg #[.int .i64 (4 - (h : Int)), .int .i64 p], .pointer (some ⟨g, 0, none⟩), .pointer (some ⟨g + 1, 0, none⟩), .pointer (some ⟨g + 2, 0, none⟩)] W (LookQ g S v (l ++ lookC S h p) W) := by
  have HA := Lib.hid (fun W => all_any S h p W hh hp)
  rw [ha] at HA
  rw [look_full ha]
  unfold LookQ
  have hbl := below_alloc W (.cells #[.int .i64 (4 - (h : Int)), .int .i64 p] 60)
  have HX := Lib.hid (And.intro (Box.new W 60 #[.int .i64 (4 - (h : Int)), .int .i64 p]) (And.intro (hC.on hbl) hbl))
  have HSZ := Lib.hid rgA_size
  have HWG := Lib.hid hC.2.2.2.2
  clear hC hbl ha hp hh
  unfold rgV at *
  generalize (4 : Int) - (h : Int) = o at *
  go_enter Try.func134, Try.ntmps134
  go_upto_region 1 with (fail)
  generalize hW0 : W.alloc (.cells #[.int .i64 o, .int .i64 p] 60) = W0 at *
  clear hW0
  have k0 := HX.out.1.cell 0
  have k1 := HX.out.1.cell 1
  simp at k0 k1
  go_wp2_with (first
    | (refine wpList_load_row rfl 98 (.tmp 1) rfl g rfl 98 _ (0, 0) _ HX.out.2.1.1 Try.underlying98 rfl (by rw [infoReg, HSZ.out]) ?_)
    | (go_at_call 116; refine (HA.out _).mono ?_; rintro e w1 ⟨rfl, h1⟩; have hC1 := HX.out.2.1.on h1; have hC2 := Lib.hid (hC1.on (below_alloc w1 (.cells #[.int .i64 o, .int .i64 p] 60))); have k0 := (HX.out.1.on h1).cell 0; have k1 := (HX.out.1.on h1).cell 1; have k2 := hC1.2.1.cell 0; simp at k0 k1 k2; have HB1 := Lib.hid (HX.out.2.2.trs h1); have hnew := Lib.hid (Box.new w1 60 #[.int .i64 o, .int .i64 p]); clear hC1)
    | (refine wp_app_pair2 44 60 rfl (.tmp 10) (.tmp 12) rfl Try.underlying44 infoCel _ (g + 3) w1.heap.size v l o p rfl rfl hC2.out.2.2.1 hnew.out (by omega) hC2.out.2.2.2.2 ?_; intro v6 w6 hO6 hB6 hS6 hF6; obtain ⟨A6, c6, e6, -⟩ := hO6.rd; generalize (l ++ [(o, (p : Int))]).length = nq at e6; subst e6; have q6 := Box.keep hC2.out.2.1 hB6 (by omega); have qc := q6.cell 0; have qf := q6.frozen 0; simp at qc; obtain ⟨r1, r2, r3⟩ := CSt.app hC2.out hO6 hB6 hS6 hF6; clear q6 hO6 hB6 hS6 hF6))
  go_end0
  exact ⟨rfl, ((HB1.out.trs (below_alloc _ _)).mono (by have := HWG.out; omega)).trans r1, _, r2, (KeepA.below (HB1.out.trs (below_alloc _ _))).trans (HB1.out.trs (below_alloc _ _)).size r3⟩

set_option maxRecDepth 100000 in
set_option maxHeartbeats 4000000 in
/-- not whole, and no look further on -/
theorem look_no (S : Px) (g h p : Nat) (v : Value) (l : List (Int × Int)) (W : World) (hh : h ≤ 4) (hp : (p + 1) * 4 ^ h ≤ 3072) (hC : CSt W g S v l) (ha : allP S (p * 4 ^ h) (4 ^ h) = false) (hn : h = 0 ∨ cntP S (p * 4 ^ h) (4 ^ h) = 0) :
    Calls Try.prog 134 #[.agg #[.int .i64 (4 - (h : Int)), .int .i64 p], .pointer (some ⟨g, 0, none⟩), .pointer (some ⟨g + 1, 0, none⟩), .pointer (some ⟨g + 2, 0, none⟩)] W (LookQ g S v l W) := by
  have HA := Lib.hid (fun W => all_any S h p W hh hp)
  have HF := Lib.hid (fun W => full_any S h p W hh hp)
  rw [ha] at HA
  unfold LookQ
  have hbl := below_alloc W (.cells #[.int .i64 (4 - (h : Int)), .int .i64 p] 60)
  have HX := Lib.hid (And.intro (Box.new W 60 #[.int .i64 (4 - (h : Int)), .int .i64 p]) (And.intro (hC.on hbl) hbl))
  have HSZ := Lib.hid rgA_size
  have HWG := Lib.hid hC.2.2.2.2
  rcases (show (4 - (h : Int) = 4 ∨ (4 - (h : Int) < 4 ∧ cntP S (p * 4 ^ h) (4 ^ h) = 0)) by omega) with ho | ⟨ho, hcn⟩
  · rw [ho] at HA HX ⊢
    clear hC hbl ha hp hh HF hn ho
    unfold rgV at *
    go_enter Try.func134, Try.ntmps134
    go_upto_region 1 with (fail)
    generalize hW0 : W.alloc (.cells #[.int .i64 4, .int .i64 p] 60) = W0 at *
    clear hW0
    have k0 := HX.out.1.cell 0
    have k1 := HX.out.1.cell 1
    simp at k0 k1
    go_wp2_with (first
      | (refine wpList_load_row rfl 98 (.tmp 1) rfl g rfl 98 _ (0, 0) _ HX.out.2.1.1 Try.underlying98 rfl (by rw [infoReg, HSZ.out]) ?_)
      | (go_at_call 116; refine (HA.out _).mono ?_; rintro e w1 ⟨rfl, h1⟩; have k0 := (HX.out.1.on h1).cell 0; have k1 := (HX.out.1.on h1).cell 1; simp at k0 k1))
    go_end0
    exact ⟨rfl, (HX.out.2.2.trs h1).mono (by have := HWG.out; omega), v, HX.out.2.1.on h1, KeepA.below (HX.out.2.2.trs h1)⟩
  · rw [hcn] at HF
    clear hC hbl ha hp hh hn hcn
    unfold rgV at *
    generalize (4 : Int) - (h : Int) = o at *
    go_enter Try.func134, Try.ntmps134
    go_upto_region 1 with (fail)
    generalize hW0 : W.alloc (.cells #[.int .i64 o, .int .i64 p] 60) = W0 at *
    clear hW0
    have k0 := HX.out.1.cell 0
    have k1 := HX.out.1.cell 1
    simp at k0 k1
    go_wp2_with (first
      | (have hyy := hC1; refine wpList_load_row rfl 98 (.tmp 1) rfl g rfl 98 _ (0, 0) _ hC1.out.1 Try.underlying98 rfl (by rw [infoReg, HSZ.out]) ?_)
      | (have hyy := hC1; refine wpList_load_reg_g rfl (.tmp 1) rfl g rfl S hC1.out.1 ?_)
      | (refine wpList_load_row rfl 98 (.tmp 1) rfl g rfl 98 _ (0, 0) _ HX.out.2.1.1 Try.underlying98 rfl (by rw [infoReg, HSZ.out]) ?_)
      | (go_at_call 116; refine (HA.out _).mono ?_; rintro e w1 ⟨rfl, h1⟩; have hC1 := Lib.hid (HX.out.2.1.on h1); have k0 := (HX.out.1.on h1).cell 0; have k1 := (HX.out.1.on h1).cell 1; simp at k0 k1)
      | (go_at_call 102; refine (HF.out _).mono ?_; rintro e w2 ⟨rfl, h2⟩))
    go_end0
    exact ⟨rfl, (HX.out.2.2.trs (h1.trs h2)).mono (by have := HWG.out; omega), v, HX.out.2.1.on (h1.trs h2), KeepA.below (HX.out.2.2.trs (h1.trs h2))⟩
end Go.Proofs.Ytolgpigdioanoaa
