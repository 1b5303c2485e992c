/- SkyCg SkyCh SkyCi SkyCj -/
import Derived.Test.YtgbpmleipdecgaaSkyCf
import Derived.Test.YtgbpmleipdecgaaLibPf
/- Walks over package sky: the closure that looks for whole cells. -/
namespace Go.Proofs.Ytgbpmleipdecgaa
open Go.RowKit
set_option linter.unusedSimpArgs false
set_option linter.unusedVariables false

/-- a region loaded behind a guard that holds -/
theorem wpList_load_reg_g {ops : Array Oper} {rest : List Oper} {o : Oper} {a : Act} {w : World} {Q : Exit → Act → World → Prop} (hw : Region.wanted o (yielded ops a.tmps) = true) (x : Operand) (ho : o.op = .load 81 x)
    (g : Nat) (hx : a.eval x = .pointer (some ⟨g, 0, none⟩)) (S : Px) (hg : BoxR w g S) (h : wpList Try.prog ops Q rest (a.put o.dst (.agg (rgA S))) w) : wpList Try.prog ops Q (o :: rest) a w := by
  refine wpList_step fun K hK => ?_
  rw [if_pos hw]
  exact wp_load_row 81 x ho g hx 81 (rgA S) (0, 0) _ hg Try.underlying81 rfl (by rw [infoReg, rgA_size]) (hK _ _ h)
theorem infoCel : (Try.prog.info? 37).map (fun i => (i.zero, i.size, i.bytes)) = some (some (.agg #[.int .i64 0, .int .i64 0]), 2, 16) := by kernel_rfl
def lookV (g : Nat) : Value := .func (.func 68) #[] #[.pointer (some ⟨g, 0, none⟩), .pointer (some ⟨g + 1, 0, none⟩), .pointer (some ⟨g + 2, 0, none⟩)]
/-- where cells' variables lie: the region, the list, the closure -/
def CSt (W : World) (g : Nat) (S : Px) (v : Value) (l : List (Int × Int)) : Prop :=
  BoxR W g S ∧ Box W (g + 1) 22 #[v] ∧ OwnP W (g + 3) 37 v l ∧ Box W (g + 2) 82 #[lookV g] ∧ g + 3 ≤ W.heap.size
theorem CSt.on {W W' : World} {g : Nat} {S : Px} {v : Value} {l : List (Int × Int)} (h : CSt W g S v l) (hb : Below W.heap.size W W') : CSt W' g S v l :=
  ⟨h.1.on hb, h.2.1.on hb, h.2.2.1.kept hb, h.2.2.2.1.on hb, Nat.le_trans h.2.2.2.2 hb.size⟩
/-- what lies elsewhere stays, and is no part of the list -/
def KeepA (g : Nat) (v v' : Value) (W w' : World) : Prop := ∀ k, k < W.heap.size → k ≠ g + 1 → v.ownBlock ≠ some k → w'.heap[k]? = W.heap[k]? ∧ v'.ownBlock ≠ some k
theorem KeepA.trans {g : Nat} {v v1 v2 : Value} {W W1 W2 : World} (h1 : KeepA g v v1 W W1) (hs : W.heap.size ≤ W1.heap.size) (h2 : KeepA g v1 v2 W1 W2) : KeepA g v v2 W W2 := fun k hk hne hv => by
  obtain ⟨a, b⟩ := h1 k hk hne hv
  obtain ⟨c, d⟩ := h2 k (by omega) hne b
  exact ⟨c.trans a, d⟩
theorem KeepA.below {g : Nat} {v : Value} {W W1 : World} (h : Below W.heap.size W W1) : KeepA g v v W W1 := fun k hk hne hv => ⟨h.block k hk, hv⟩
/-- what a look does -/
def LookQ (g : Nat) (S : Px) (v : Value) (l' : List (Int × Int)) (W : World) (e : Ending) (w' : World) : Prop :=
  e = .returned (.tuple #[]) ∧ Below g W w' ∧ ∃ v', CSt w' g S v' l' ∧ KeepA g v v' W w'
/-- the list one longer -/
theorem CSt.app {W w' : World} {g : Nat} {S : Px} {v v' : Value} {l l' : List (Int × Int)} {n : Nat} (h : CSt W g S v l) (hO : OwnP w' (g + 3) 37 v' l') (hB : Below (g + 3) W w') (hS : Spared v n W w') (hF : Fresh v v' W.heap.size) :
    Below g W (w'.setCell ⟨g + 1, 0, none⟩ v') ∧ CSt (w'.setCell ⟨g + 1, 0, none⟩ v') g S v' l' ∧ KeepA g v v' W (w'.setCell ⟨g + 1, 0, none⟩ v') := by
  obtain ⟨h1, h2, h3, h4, h5⟩ := h
  refine ⟨(hB.mono (by omega)).setCell (p := ⟨g + 1, 0, none⟩) (by simp) v', ⟨?_, ?_, hO.far (p := ⟨g + 1, 0, none⟩) (by simp) v', ?_, ?_⟩, fun k hk hne hv => ⟨?_, ?_⟩⟩
  · exact Box.far (h1.keep hB (by omega)) (p := ⟨g + 1, 0, none⟩) (by simp) v'
  · have := (h2.keep hB (by omega)).set_ 0 v'
    simpa using this
  · exact (h4.keep hB (by omega)).far (p := ⟨g + 1, 0, none⟩) (by simp) v'
  · have := hB.size; simp; omega
  · exact (Below.heap_setCell w' ⟨g + 1, 0, none⟩ v' k hne).trans (hS.by_.block k hk (by first | exact hv | exact fun e => hv e.symm))
  · intro e
    rcases hF k e with h | h
    · exact hv h
    · omega

set_option maxRecDepth 100000 in
set_option maxHeartbeats 4000000 in
theorem look_yes (S : Px) (g h p : Nat) (v : Value) (l : List (Int × Int)) (W : World) (hh : h ≤ 4) (hp : (p + 1) * 4 ^ h ≤ 3072) (hl : l.length ≤ 10000) (hC : CSt W g S v l) (ha : allP S (p * 4 ^ h) (4 ^ h) = true) :
    Calls Try.prog 68 #[.agg #[.int .i64 (4 - (h : Int)), .int .i64 p], .pointer (some ⟨g, 0, none⟩), .pointer (some ⟨g + 1, 0, none⟩), .pointer (some ⟨g + 2, 0, none⟩)] W (LookQ g S v (l ++ lookC S h p) W) := by
  have HA := Lib.hid (fun W => all_any S h p W hh hp)
  rw [ha] at HA
  rw [look_full ha]
  unfold LookQ
  have hbl := below_alloc W (.cells #[.int .i64 (4 - (h : Int)), .int .i64 p] 37)
  have HX := Lib.hid (And.intro (Box.new W 37 #[.int .i64 (4 - (h : Int)), .int .i64 p]) (And.intro (hC.on hbl) hbl))
  have HSZ := Lib.hid rgA_size
  have HWG := Lib.hid hC.2.2.2.2
  clear hC hbl ha hp hh
  unfold rgV at *
  generalize (4 : Int) - (h : Int) = o at *
  go_enter Try.func68, Try.ntmps68
  go_upto_region 1 with (fail)
  generalize hW0 : W.alloc (.cells #[.int .i64 o, .int .i64 p] 37) = W0 at *
  clear hW0
  have k0 := HX.out.1.cell 0
  have k1 := HX.out.1.cell 1
  simp at k0 k1
  go_wp2_with (first
    | (refine wpList_load_row rfl 81 (.tmp 1) rfl g rfl 81 _ (0, 0) _ HX.out.2.1.1 Try.underlying81 rfl (by rw [infoReg, HSZ.out]) ?_)
    | (go_at_call 46; refine (HA.out _).mono ?_; rintro e w1 ⟨rfl, h1⟩; have hC1 := HX.out.2.1.on h1; have hC2 := Lib.hid (hC1.on (below_alloc w1 (.cells #[.int .i64 o, .int .i64 p] 37))); have k0 := (HX.out.1.on h1).cell 0; have k1 := (HX.out.1.on h1).cell 1; have k2 := hC1.2.1.cell 0; simp at k0 k1 k2; have HB1 := Lib.hid (HX.out.2.2.trs h1); have hnew := Lib.hid (Box.new w1 37 #[.int .i64 o, .int .i64 p]); clear hC1)
    | (refine wp_app_pair2 22 37 rfl (.tmp 10) (.tmp 12) rfl Try.underlying22 infoCel _ (g + 3) w1.heap.size v l o p rfl rfl hC2.out.2.2.1 hnew.out (by omega) hC2.out.2.2.2.2 ?_; intro v6 w6 hO6 hB6 hS6 hF6; obtain ⟨A6, c6, e6, -⟩ := hO6.rd; generalize (l ++ [(o, (p : Int))]).length = nq at e6; subst e6; have q6 := Box.keep hC2.out.2.1 hB6 (by omega); have qc := q6.cell 0; have qf := q6.frozen 0; simp at qc; obtain ⟨r1, r2, r3⟩ := CSt.app hC2.out hO6 hB6 hS6 hF6; clear q6 hO6 hB6 hS6 hF6))
  go_end0
  exact ⟨rfl, ((HB1.out.trs (below_alloc _ _)).mono (by have := HWG.out; omega)).trans r1, _, r2, (KeepA.below (HB1.out.trs (below_alloc _ _))).trans (HB1.out.trs (below_alloc _ _)).size r3⟩

set_option maxRecDepth 100000 in
set_option maxHeartbeats 4000000 in
/-- not whole, and no look further on -/
theorem look_no (S : Px) (g h p : Nat) (v : Value) (l : List (Int × Int)) (W : World) (hh : h ≤ 4) (hp : (p + 1) * 4 ^ h ≤ 3072) (hC : CSt W g S v l) (ha : allP S (p * 4 ^ h) (4 ^ h) = false) (hn : h = 0 ∨ cntP S (p * 4 ^ h) (4 ^ h) = 0) :
    Calls Try.prog 68 #[.agg #[.int .i64 (4 - (h : Int)), .int .i64 p], .pointer (some ⟨g, 0, none⟩), .pointer (some ⟨g + 1, 0, none⟩), .pointer (some ⟨g + 2, 0, none⟩)] W (LookQ g S v l W) := by
  have HA := Lib.hid (fun W => all_any S h p W hh hp)
  have HF := Lib.hid (fun W => full_any S h p W hh hp)
  rw [ha] at HA
  unfold LookQ
  have hbl := below_alloc W (.cells #[.int .i64 (4 - (h : Int)), .int .i64 p] 37)
  have HX := Lib.hid (And.intro (Box.new W 37 #[.int .i64 (4 - (h : Int)), .int .i64 p]) (And.intro (hC.on hbl) hbl))
  have HSZ := Lib.hid rgA_size
  have HWG := Lib.hid hC.2.2.2.2
  rcases (show (4 - (h : Int) = 4 ∨ (4 - (h : Int) < 4 ∧ cntP S (p * 4 ^ h) (4 ^ h) = 0)) by omega) with ho | ⟨ho, hcn⟩
  · rw [ho] at HA HX ⊢
    clear hC hbl ha hp hh HF hn ho
    unfold rgV at *
    go_enter Try.func68, Try.ntmps68
    go_upto_region 1 with (fail)
    generalize hW0 : W.alloc (.cells #[.int .i64 4, .int .i64 p] 37) = W0 at *
    clear hW0
    have k0 := HX.out.1.cell 0
    have k1 := HX.out.1.cell 1
    simp at k0 k1
    go_wp2_with (first
      | (refine wpList_load_row rfl 81 (.tmp 1) rfl g rfl 81 _ (0, 0) _ HX.out.2.1.1 Try.underlying81 rfl (by rw [infoReg, HSZ.out]) ?_)
      | (go_at_call 46; refine (HA.out _).mono ?_; rintro e w1 ⟨rfl, h1⟩; have k0 := (HX.out.1.on h1).cell 0; have k1 := (HX.out.1.on h1).cell 1; simp at k0 k1))
    go_end0
    exact ⟨rfl, (HX.out.2.2.trs h1).mono (by have := HWG.out; omega), v, HX.out.2.1.on h1, KeepA.below (HX.out.2.2.trs h1)⟩
  · rw [hcn] at HF
    clear hC hbl ha hp hh hn hcn
    unfold rgV at *
    generalize (4 : Int) - (h : Int) = o at *
    go_enter Try.func68, Try.ntmps68
    go_upto_region 1 with (fail)
    generalize hW0 : W.alloc (.cells #[.int .i64 o, .int .i64 p] 37) = W0 at *
    clear hW0
    have k0 := HX.out.1.cell 0
    have k1 := HX.out.1.cell 1
    simp at k0 k1
    go_wp2_with (first
      | (have hyy := hC1; refine wpList_load_row rfl 81 (.tmp 1) rfl g rfl 81 _ (0, 0) _ hC1.out.1 Try.underlying81 rfl (by rw [infoReg, HSZ.out]) ?_)
      | (have hyy := hC1; refine wpList_load_reg_g rfl (.tmp 1) rfl g rfl S hC1.out.1 ?_)
      | (refine wpList_load_row rfl 81 (.tmp 1) rfl g rfl 81 _ (0, 0) _ HX.out.2.1.1 Try.underlying81 rfl (by rw [infoReg, HSZ.out]) ?_)
      | (go_at_call 46; refine (HA.out _).mono ?_; rintro e w1 ⟨rfl, h1⟩; have hC1 := Lib.hid (HX.out.2.1.on h1); have k0 := (HX.out.1.on h1).cell 0; have k1 := (HX.out.1.on h1).cell 1; simp at k0 k1)
      | (go_at_call 67; refine (HF.out _).mono ?_; rintro e w2 ⟨rfl, h2⟩))
    go_end0
    exact ⟨rfl, (HX.out.2.2.trs (h1.trs h2)).mono (by have := HWG.out; omega), v, HX.out.2.1.on (h1.trs h2), KeepA.below (HX.out.2.2.trs (h1.trs h2))⟩
end Go.Proofs.Ytgbpmleipdecgaa

/- Walks over package sky: the closure that looks for whole cells, with its calls of itself. -/
namespace Go.Proofs.Ytgbpmleipdecgaa
open Go.RowKit
set_option linter.unusedSimpArgs false
set_option linter.unusedVariables false

def kidC (S : Px) (h p : Nat) : Nat → List (Int × Int)
  | 0 => []
  | k + 1 => kidC S h p k ++ lookC S h (4 * p + k)
theorem kidC_all {S : Px} {h p : Nat} (ha : allP S (p * 4 ^ (h + 1)) (4 ^ (h + 1)) = false) : kidC S h p 4 = lookC S (h + 1) p := by
  rw [look_split ha]
  simp [kidC, List.append_assoc]
theorem look_len (S : Px) : ∀ h p : Nat, (lookC S h p).length ≤ 4 ^ h
  | 0, p => by simp only [lookC]; split <;> simp
  | h + 1, p => by
    cases ha : allP S (p * 4 ^ (h + 1)) (4 ^ (h + 1))
    · rw [look_split ha]
      have h0 := look_len S h (4 * p)
      have h1 := look_len S h (4 * p + 1)
      have h2 := look_len S h (4 * p + 2)
      have h3 := look_len S h (4 * p + 3)
      simp only [List.length_append, Nat.pow_succ]
      omega
    · rw [look_full ha]
      have := four_pos (h + 1)
      simp only [List.length_cons, List.length_nil]
      omega
theorem kidC_len (S : Px) (h p : Nat) : ∀ k, (kidC S h p k).length ≤ k * 4 ^ h
  | 0 => by simp [kidC]
  | k + 1 => by
    have h1 := kidC_len S h p k
    have h2 := look_len S h (4 * p + k)
    simp only [kidC, List.length_append, Nat.add_mul, Nat.one_mul]
    omega
set_option maxRecDepth 100000 in
set_option maxHeartbeats 4000000 in
theorem look_kids (S : Px) (g h p : Nat) (v : Value) (l : List (Int × Int)) (W : World) (hh : h + 1 ≤ 4) (hp : (p + 1) * 4 ^ (h + 1) ≤ 3072) (hl : l.length + 4 ^ (h + 1) ≤ 10000) (hC : CSt W g S v l) (ha : allP S (p * 4 ^ (h + 1)) (4 ^ (h + 1)) = false) (hn : 0 < cntP S (p * 4 ^ (h + 1)) (4 ^ (h + 1)))
    (ih : ∀ (k : Nat) (v : Value) (l : List (Int × Int)) (W : World), k < 4 → l.length + 4 ^ h ≤ 10000 → CSt W g S v l →
      Calls Try.prog 68 #[.agg #[.int .i64 (4 - (h : Int)), .int .i64 ((4 * p + k : Nat) : Int)], .pointer (some ⟨g, 0, none⟩), .pointer (some ⟨g + 1, 0, none⟩), .pointer (some ⟨g + 2, 0, none⟩)] W (LookQ g S v (l ++ lookC S h (4 * p + k)) W)) :
    Calls Try.prog 68 #[.agg #[.int .i64 (4 - ((h + 1 : Nat) : Int)), .int .i64 p], .pointer (some ⟨g, 0, none⟩), .pointer (some ⟨g + 1, 0, none⟩), .pointer (some ⟨g + 2, 0, none⟩)] W (LookQ g S v (l ++ lookC S (h + 1) p) W) := by
  have HA := Lib.hid (fun W => all_any S (h + 1) p W hh hp)
  have HF := Lib.hid (fun W => full_any S (h + 1) p W hh hp)
  rw [ha] at HA
  rw [← kidC_all ha]
  have hpb : p ≤ 3072 := by
    have h1 := four_pos (h + 1)
    have h2 := Nat.le_mul_of_pos_right (p + 1) h1
    omega
  have HIH := Lib.hid (fun k v W (hk : k < 4) hC => ih k v (l ++ kidC S h p k) W hk (by
    have h1 := kidC_len S h p k
    have h2 : (4 : Nat) ^ (h + 1) = 4 * 4 ^ h := by rw [Nat.pow_succ, Nat.mul_comm]
    have h3 := Nat.mul_le_mul_right (4 ^ h) (show k + 1 ≤ 4 by omega)
    rw [Nat.add_mul, Nat.one_mul] at h3
    simp only [List.length_append]
    omega) hC)
  have HKZ : Hid (l ++ kidC S h p 0 = l) := Lib.hid (by simp [kidC])
  have HKS : Hid (∀ k, l ++ kidC S h p k ++ lookC S h (4 * p + k) = l ++ kidC S h p (k + 1)) := Lib.hid (fun k => by simp [kidC])
  generalize kidC S h p = KI at *
  have ho2 : (4 : Int) - ((h + 1 : Nat) : Int) + 1 = 4 - (h : Int) := by omega
  rw [← ho2] at HIH
  have ho1 : (4 : Int) - ((h + 1 : Nat) : Int) < 4 := by omega
  have ho0 : 0 ≤ (4 : Int) - ((h + 1 : Nat) : Int) := by omega
  have hbl := below_alloc W (.cells #[.int .i64 (4 - ((h + 1 : Nat) : Int)), .int .i64 p] 37)
  have HX := Lib.hid (And.intro (Box.new W 37 #[.int .i64 (4 - ((h + 1 : Nat) : Int)), .int .i64 p]) (And.intro (hC.on hbl) hbl))
  have HSZ := Lib.hid rgA_size
  have HWG := Lib.hid hC.2.2.2.2
  have HVO := Lib.hid (fun k hk => (World.ownsRow.lt hC.2.2.1 k hk).2)
  have hcn : (0 : Int) < (cntP S (p * 4 ^ (h + 1)) (4 ^ (h + 1)) : Int) := by omega
  clear hC hbl ha hp hh hl ih ho2
  unfold rgV LookQ at *
  generalize (4 : Int) - ((h + 1 : Nat) : Int) = o at *
  generalize cntP S (p * 4 ^ (h + 1)) (4 ^ (h + 1)) = cn at *
  go_enter Try.func68, Try.ntmps68
  go_upto_region 1 with (fail)
  generalize hW0 : W.alloc (.cells #[.int .i64 o, .int .i64 p] 37) = W0 at *
  have hsz0 : W0.heap.size = W.heap.size + 1 := by rw [← hW0]; simp
  clear hW0
  have k0 := HX.out.1.cell 0
  have k1 := HX.out.1.cell 1
  simp at k0 k1
  go_wp2_with (first
    | (have hyy := hC1; refine wpList_load_reg_g rfl (.tmp 1) rfl g rfl S hC1.out.1 ?_)
    | (refine wpList_load_row rfl 81 (.tmp 1) rfl g rfl 81 _ (0, 0) _ HX.out.2.1.1 Try.underlying81 rfl (by rw [infoReg, HSZ.out]) ?_)
    | (go_at_call 46; refine (HA.out _).mono ?_; rintro e w1 ⟨rfl, h1⟩; have hC1 := Lib.hid (HX.out.2.1.on h1); have k0 := (HX.out.1.on h1).cell 0; have k1 := (HX.out.1.on h1).cell 1; simp at k0 k1)
    | (go_at_call 67; refine (HF.out _).mono ?_; rintro e w2 ⟨rfl, h2⟩))
  have HB2 := Lib.hid (h1.trs h2)
  go_loopg [24] 4 (fun gk t wr => ∃ (k : Nat) (v' : Value), t = .int .i64 k ∧ k ≤ 4 ∧ 4 - k ≤ gk ∧ CSt wr g S v' (l ++ KI k) ∧ Box wr W.heap.size 37 #[.int .i64 o, .int .i64 p] ∧ v'.ownBlock ≠ some W.heap.size ∧ Below g W wr ∧ KeepA g v v' W wr)
  case atStart => exact ⟨0, v, rfl, by omega, by omega, by rw [HKZ.out]; exact HX.out.2.1.on HB2.out, HX.out.1.on HB2.out, fun e => by have := HVO.out _ e; omega, (HX.out.2.2.trs HB2.out).mono (by have := HWG.out; omega), KeepA.below (HX.out.2.2.trs HB2.out)⟩
  case round =>
    obtain ⟨k, v', rfl, hk, hgk, hC, hX, hV, hB, hK⟩ := hrel
    by_cases hlt : k < 4
    · have hltI : (k : Int) < 4 := by omega
      have HCH := Lib.hid (HIH.out k v' wr hlt hC)
      have k0 := hX.cell 0
      have k1 := hX.cell 1
      have k2 := hC.2.2.2.1.cell 0
      simp at k0 k1 k2
      unfold lookV at k2
      have HL := Lib.hid (And.intro hlt hgk)
      have HKK := Lib.hid (And.intro hX (And.intro hV (And.intro hB hK)))
      have hlts := hX.lt
      clear hC hX hV hB hK
      push_cast at HCH
      go_wp2_with (go_at_call 68; refine HCH.out.mono ?_; rintro e w3 ⟨rfl, h3, v3, hC3, hK3⟩)
      have hb3 := hK3 W.heap.size hlts (by have := HWG.out; omega) HKK.out.2.1
      go_roundg (4 - (k + 1))
      case measure => have := HL.out; omega
      case rel => exact ⟨k + 1, v3, by go_num, by have := HL.out; omega, by have := HL.out; omega, by rw [← HKS.out]; exact hC3, hb3.1.trans HKK.out.1, hb3.2, HKK.out.2.2.1.trans h3, HKK.out.2.2.2.trans HKK.out.2.2.1.size hK3⟩
    · obtain rfl : k = 4 := by omega
      go_wp2
      go_end0
      exact ⟨rfl, hB, v', hC, hK⟩

/-- what the closure does -/
theorem look_any (S : Px) (g : Nat) : ∀ (h p : Nat) (v : Value) (l : List (Int × Int)) (W : World), h ≤ 4 → (p + 1) * 4 ^ h ≤ 3072 → l.length + 4 ^ h ≤ 10000 → CSt W g S v l →
    Calls Try.prog 68 #[.agg #[.int .i64 (4 - (h : Int)), .int .i64 p], .pointer (some ⟨g, 0, none⟩), .pointer (some ⟨g + 1, 0, none⟩), .pointer (some ⟨g + 2, 0, none⟩)] W (LookQ g S v (l ++ lookC S h p) W)
  | 0, p, v, l, W, hh, hp, hl, hC => by
    cases ha : allP S (p * 4 ^ 0) (4 ^ 0)
    · have := look_no S g 0 p v l W hh hp hC ha (.inl rfl)
      rw [look_leaf ha, List.append_nil]
      exact this
    · exact look_yes S g 0 p v l W hh hp (by omega) hC ha
  | h + 1, p, v, l, W, hh, hp, hl, hC => by
    cases ha : allP S (p * 4 ^ (h + 1)) (4 ^ (h + 1))
    · by_cases hn : cntP S (p * 4 ^ (h + 1)) (4 ^ (h + 1)) = 0
      · have := look_no S g (h + 1) p v l W hh hp hC ha (.inr hn)
        rw [look_none (show anyP S (p * 4 ^ (h + 1)) (4 ^ (h + 1)) = false by unfold anyP; rw [hn]; rfl), List.append_nil]
        exact this
      · refine look_kids S g h p v l W hh hp hl hC ha (by omega) fun k v l W hk hl hC => look_any S g h (4 * p + k) v l W (by omega) ?_ hl hC
        have h2 : (4 : Nat) ^ (h + 1) = 4 * 4 ^ h := by rw [Nat.pow_succ, Nat.mul_comm]
        have h3 := quarter p h (k + 1)
        have h4 := Nat.mul_le_mul_right (4 ^ h) (show k + 1 ≤ 4 by omega)
        rw [Nat.add_mul, Nat.one_mul] at hp
        rw [show 4 * p + k + 1 = 4 * p + (k + 1) by omega, h3]
        omega
    · exact look_yes S g (h + 1) p v l W hh hp (by have := four_pos (h + 1); omega) hC ha
end Go.Proofs.Ytgbpmleipdecgaa

/- Walks over package sky: the cells of a region. -/
namespace Go.Proofs.Ytgbpmleipdecgaa
open Go.RowKit
set_option linter.unusedSimpArgs false
set_option linter.unusedVariables false

/-- a list of cells comes back -/
def CelsQ (l : List (Int × Int)) (w : World) (e : Ending) (w' : World) : Prop :=
  Below w.heap.size w w' ∧ ∃ A c, e = .returned (.slice A l.length c) ∧ RdP w' w'.heap.size A l
def faceC (S : Px) : Nat → List (Int × Int)
  | 0 => []
  | f + 1 => faceC S f ++ lookC S 4 f
theorem faceC_all (S : Px) : faceC S 12 = cellsP S := by
  unfold cellsP
  rw [show List.range 12 = [0, 1, 2, 3, 4, 5, 6, 7, 8, 9, 10, 11] by decide]
  simp [faceC, List.append_assoc]
theorem faceC_len (S : Px) : ∀ f, (faceC S f).length ≤ f * 256
  | 0 => by simp [faceC]
  | f + 1 => by
    have h1 := faceC_len S f
    have h2 := look_len S 4 f
    rw [show (4 : Nat) ^ 4 = 256 by decide] at h2
    simp only [faceC, List.length_append]
    omega
theorem cells_len (S : Px) : (cellsP S).length ≤ 3072 := by have := faceC_len S 12; rw [faceC_all] at this; omega
set_option maxRecDepth 100000 in
set_option maxHeartbeats 4000000 in
theorem cells_any (S : Px) (w : World) : Calls Try.prog 52 #[rgV S] w (CelsQ (cellsP S) w) := by
  have x1 := BoxR.new w S
  have b1 := below_alloc w (.cells (rgA S) 81)
  have x2 := Box.new (w.alloc (.cells (rgA S) 81)) 22 #[.slice none 0 0]
  have b2 := below_alloc (w.alloc (.cells (rgA S) 81)) (.cells #[.slice none 0 0] 22)
  have x3 := Box.new ((w.alloc (.cells (rgA S) 81)).alloc (.cells #[.slice none 0 0] 22)) 82 #[lookV w.heap.size]
  have b3 := below_alloc ((w.alloc (.cells (rgA S) 81)).alloc (.cells #[.slice none 0 0] 22)) (.cells #[lookV w.heap.size] 82)
  simp only [World.size_alloc] at x2 x3
  have HC : Hid (CSt (((w.alloc (.cells (rgA S) 81)).alloc (.cells #[.slice none 0 0] 22)).alloc (.cells #[lookV w.heap.size] 82)) w.heap.size S (.slice none 0 0) [] ∧ Below w.heap.size w (((w.alloc (.cells (rgA S) 81)).alloc (.cells #[.slice none 0 0] 22)).alloc (.cells #[lookV w.heap.size] 82))) :=
    Lib.hid ⟨⟨(x1.on b2).on b3, x2.on b3, OwnP.nil _ _ _, x3, by simp⟩, (b1.trs b2).trs b3⟩
  have HFZ : Hid (faceC S 0 = []) := Lib.hid rfl
  have HFS : Hid (∀ f, faceC S f ++ lookC S 4 f = faceC S (f + 1)) := Lib.hid (fun f => rfl)
  have HFA := Lib.hid (faceC_all S)
  have h4 : (4 : Nat) ^ 4 = 256 := by decide
  have hlk : ∀ (f : Nat) (v : Value) (W : World), f < 12 → CSt W w.heap.size S v (faceC S f) → Calls Try.prog 68 #[.agg #[.int .i64 0, .int .i64 f], .pointer (some ⟨w.heap.size, 0, none⟩), .pointer (some ⟨w.heap.size + 1, 0, none⟩), .pointer (some ⟨w.heap.size + 2, 0, none⟩)] W (LookQ w.heap.size S v (faceC S f ++ lookC S 4 f) W) := fun f v W hf hC => by
    have hl := faceC_len S f
    exact look_any S w.heap.size 4 f v (faceC S f) W (by omega) (by rw [h4]; omega) (by rw [h4]; omega) hC
  have HLK := Lib.hid hlk
  clear hlk h4
  clear x1 x2 x3 b1 b2 b3
  generalize hgw : w.heap.size = g at *
  have HGW := Lib.hid hgw
  clear hgw
  unfold rgV LookQ CelsQ at *
  rw [HGW.out]
  generalize faceC S = FC at *
  generalize cellsP S = CP at *
  unfold lookV at HC
  go_enter Try.func52, Try.ntmps52
  go_upto_region 4 with (fail)
  rw [HGW.out]
  simp only [show g + 1 + 1 = g + 2 from rfl]
  generalize hW0 : (((w.alloc (.cells (rgA S) 81)).alloc (.cells #[.slice none 0 0] 22)).alloc (.cells #[.func (.func 68) #[] #[.pointer (some ⟨g, 0, none⟩), .pointer (some ⟨g + 1, 0, none⟩), .pointer (some ⟨g + 2, 0, none⟩)]] 82)) = W0 at *
  clear hW0
  go_wp2
  go_loopg [7] 12 (fun gk t wr => ∃ (f : Nat) (v' : Value), t = .int .i64 f ∧ f ≤ 12 ∧ 12 - f ≤ gk ∧ CSt wr g S v' (FC f) ∧ Below g w wr)
  case atStart => exact ⟨0, _, rfl, by omega, by omega, by rw [HFZ.out]; exact HC.out.1, HC.out.2⟩
  case round =>
    obtain ⟨f, v', rfl, hf, hgk, hC, hB⟩ := hrel
    by_cases hlt : f < 12
    · have hltI : (f : Int) < 12 := by omega
      have HCH := Lib.hid (HLK.out f v' wr hlt hC)
      have k2 := hC.2.2.2.1.cell 0
      simp at k2
      unfold lookV at k2
      have HL := Lib.hid (And.intro hlt hgk)
      have HBB := Lib.hid hB
      clear hC hB
      go_wp2_with (go_at_call 68; refine HCH.out.mono ?_; rintro e w3 ⟨rfl, h3, v3, hC3, hK3⟩)
      go_roundg (12 - (f + 1))
      case measure => have := HL.out; omega
      case rel => exact ⟨f + 1, v3, by go_num, by have := HL.out; omega, by have := HL.out; omega, by rw [← HFS.out]; exact hC3, HBB.out.trans h3⟩
    · obtain rfl : f = 12 := by omega
      rw [HFA.out] at hC
      obtain ⟨A, c, rfl, hrd⟩ := hC.2.2.1.rd
      have k2 := hC.2.1.cell 0
      simp at k2
      have HBB := Lib.hid hB
      have HRD := Lib.hid hrd
      clear hC hB hrd
      generalize hn : CP.length = n at *
      go_wp2
      go_ret
      exact ⟨HBB.out, A, c, by rw [hn]; first | done | rfl, HRD.out⟩
end Go.Proofs.Ytgbpmleipdecgaa

/- Walks over package sky: equal lists of cells; what is told of a region; which lists are sets; the set of cells. -/
namespace Go.Proofs.Ytgbpmleipdecgaa
open Go.RowKit
set_option linter.unusedSimpArgs false
set_option linter.unusedVariables false

theorem cels_ext {l m : List (Int × Int)} (hl : l.length = m.length) (h : ∀ k, k < l.length → pa l k = pa m k ∧ pb l k = pb m k) : l = m := by
  refine List.ext_getElem hl fun k h1 h2 => ?_
  have := h k h1
  simp only [pa, pb, List.getD_eq_getElem?_getD, List.getElem?_eq_getElem h1, List.getElem?_eq_getElem h2, Option.getD_some] at this
  exact Prod.ext this.1 this.2
theorem cels_ne {l m : List (Int × Int)} {k : Nat} (h : ¬ (pa l k = pa m k ∧ pb l k = pb m k)) : decide (l = m) = false := by
  rw [decide_eq_false_iff_not]
  rintro rfl
  exact h ⟨rfl, rfl⟩
set_option maxHeartbeats 2000000 in
theorem Equal_any (A A' : Option Addr) (c c' : Nat) (l m : List (Int × Int)) (w : World) (hr : RdP w w.heap.size A l) (hr' : RdP w w.heap.size A' m) (hl : l.length ≤ 1000000) (hm : m.length ≤ 1125899906842624) :
    Calls Try.prog 71 #[.slice A l.length c, .slice A' m.length c'] w fun e w' => e = .returned (.bool (decide (l = m))) ∧ Below w.heap.size w w' := by
  have HR := Lib.hid hr
  have HR' := Lib.hid hr'
  have HN := Lib.hid (fun k (h : ¬ (pa l k = pa m k ∧ pb l k = pb m k)) => cels_ne h)
  have HY := Lib.hid (fun (hl : l.length = m.length) (h : ∀ k, k < l.length → pa l k = pa m k ∧ pb l k = pb m k) => decide_eq_true (cels_ext hl h))
  have HZ : Hid (¬ l.length = m.length → decide (l = m) = false) := Lib.hid (fun h => decide_eq_false fun e => h (by rw [e]))
  clear hr hr'
  generalize decide (l = m) = r at *
  by_cases hlm : l.length = m.length
  · have HLM := Lib.hid hlm
    rw [← hlm]
    have HM2 := Lib.hid (fun k (hk : k < l.length) => HR'.out.at_ (k := k) (by rw [← HLM.out]; exact hk))
    have HM1 := Lib.hid (fun k (hk : k < l.length) => HR.out.at_ (k := k) hk)
    clear hlm hm
    generalize l.length = n at *
    go_enter Try.func71, Try.ntmps71
    go_wp2
    go_loopg [13] n (fun k s wr => ∃ i : Nat, s = .int .i64 i ∧ i ≤ n ∧ n - i ≤ k ∧ Below w.heap.size w wr ∧ Aside (∀ k, k < i → pa l k = pa m k ∧ pb l k = pb m k))
    case atStart => exact ⟨0, rfl, by omega, by omega, Below.refl _ _, (fun j hj => absurd hj (Nat.not_lt_zero j) : ∀ k, k < 0 → pa l k = pa m k ∧ pb l k = pb m k)⟩
    case round =>
      obtain ⟨i, rfl, hi, hk, hB, HA⟩ := hrel
      by_cases hlt : i < n
      · obtain ⟨b, o, rfl, hb, c1, c2⟩ := HM1.out i hlt
        obtain ⟨b', o', rfl, hb', d1, d2⟩ := HM2.out i hlt
        rw [← hB.cell hb] at c1 c2
        rw [← hB.cell hb'] at d1 d2
        have hltI : (i : Int) < (n : Int) := by omega
        have HL := Lib.hid (And.intro hlt hk)
        have HBB := Lib.hid hB
        have HNI := Lib.hid (HN.out i)
        have HAI := Lib.hid (fun (h : pa l i = pa m i ∧ pb l i = pb m i) (k : Nat) (hk : k < i + 1) => (by
          rcases Nat.lt_succ_iff_lt_or_eq.1 hk with h1 | rfl
          · exact HA.out k h1
          · exact h : pa l k = pa m k ∧ pb l k = pb m k))
        clear hB HA hk
        generalize pa l i = x at *
        generalize pb l i = y at *
        generalize pa m i = x' at *
        generalize pb m i = y' at *
        by_cases e1 : x = x'
        · by_cases e2 : y = y'
          · subst e1; subst e2
            go_wp2
            go_quiet (fail)
            go_wp2
            go_roundg (n - (i + 1))
            case measure => have := HL.out; omega
            case rel => exact ⟨i + 1, by go_num, by have := HL.out; omega, by have := HL.out; omega, HBB.out.drewsN _, HAI.out (by simp)⟩
          · subst e1
            have e3 : (y == y') = false := by rw [beq_eq_false_iff_ne]; exact e2
            have hrf := HNI.out (fun h => e2 h.2)
            subst hrf
            go_wp2
            go_quiet (fail)
            go_wp2
            go_ret
            exact ⟨rfl, HBB.out.drewsN _⟩
        · have e3 : (x == x') = false := by rw [beq_eq_false_iff_ne]; exact e1
          have hrf := HNI.out (fun h => e1 h.1)
          subst hrf
          go_wp2
          go_quiet (fail)
          go_wp2
          go_ret
          exact ⟨rfl, HBB.out.drewsN _⟩
      · obtain rfl : i = n := by omega
        have hltI : ¬ (i : Int) < (i : Int) := by omega
        have hrt := HY.out HLM.out (fun k hk => HA.out k hk)
        subst hrt
        go_wp2
        go_ret
        exact ⟨rfl, hB⟩
  · have hrf := HZ.out hlm
    have hne : ((l.length : Int) != (m.length : Int)) = true := by rw [bne_iff_ne]; omega
    subst hrf
    have hle : (l.length : Int) ≤ 1000000 := by omega
    generalize l.length = n at *
    generalize m.length = n2 at *
    go_enter Try.func71, Try.ntmps71
    go_wp2
    go_ret
    exact ⟨rfl, Below.refl _ _⟩
end Go.Proofs.Ytgbpmleipdecgaa
