/- Walks over package wave: encode. -/
import Derived.Test.YtkjiancdhaocaaaDoorWvC
import Derived.Test.YtkjiancdhaocaaaDoorLibR
namespace Go.Proofs.YtkjiancdhaocaaaDoor
open Go.RowKit Go.Shelf
set_option linter.unusedSimpArgs false
set_option linter.unusedVariables false
attribute [local go_sem] Oper.semAt_some

/-- the first j texts are empty, the others none -/
def empF (j : Nat) : Nat → Ot := fun i => if i < j then some [] else none
theorem empF_succ (j : Nat) : upd (empF j) j (some []) = empF (j + 1) := by
  funext i
  unfold upd empF
  by_cases h : i = j
  · subst h; simp
  · by_cases h2 : i < j
    · have : i < j + 1 := by omega
      simp [h, h2, this]
    · have : ¬ i < j + 1 := by omega
      simp [h, h2, this]
/-- the texts behind some indices, gone over -/
def foldE (ds : List Int) (p : List Nat) : Nat → Ot := p.foldl (fun b m => stepP b (ix ds m)) (fun _ => some [])
theorem foldE_snoc (ds : List Int) (p : List Nat) (m : Nat) : foldE ds (p ++ [m]) = stepP (foldE ds p) (ix ds m) := by simp [foldE]
theorem foldE_dnl (ds : List Int) : ∀ d, d ≤ ds.length → foldE ds (dnl ds.length d) = encF (ds.drop (ds.length - d))
  | 0, _ => by simp [foldE, dnl, encF]
  | d + 1, h => by
    rw [dnl, foldE_snoc, foldE_dnl ds d (by omega)]
    have hlt : ds.length - 1 - d < ds.length := by omega
    rw [show ds.length - (d + 1) = ds.length - 1 - d by omega, List.drop_eq_getElem_cons hlt, show ds.length - 1 - d + 1 = ds.length - d by omega]
    simp only [encF]
    congr 1
    simp [ix, hlt]
theorem foldE_all (ds : List Int) : foldE ds (dnl ds.length ds.length) = encF ds := by rw [foldE_dnl ds _ (Nat.le_refl _), Nat.sub_self, List.drop_zero]
/-- the first i texts of a difference -/
def iniF (b : Nat → Ot) (d : Int) (i : Nat) : Nat → Ot := fun j => if j < i then f0 b d j else none
theorem iniF_zero (b : Nat → Ot) (d : Int) : iniF b d 0 = fun _ => none := by funext j; simp [iniF]
theorem iniF_five (b : Nat → Ot) (d : Int) {j : Nat} (h : j < 5) : iniF b d 5 j = f0 b d j := by simp [iniF, h]
theorem iniF_yes {b : Nat → Ot} {d : Int} {i : Nat} (h : canD (wid i) d = true) : upd (iniF b d i) i (pre (wordB (wid i) d) (b i)) = iniF b d (i + 1) := by
  funext j
  unfold upd iniF
  by_cases e : j = i
  · subst e; simp [f0, h]
  · by_cases e2 : j < i
    · have : j < i + 1 := by omega
      simp [e, e2, this]
    · have : ¬ j < i + 1 := by omega
      simp [e, e2, this]
theorem iniF_no {b : Nat → Ot} {d : Int} {i : Nat} (h : canD (wid i) d = false) : iniF b d i = iniF b d (i + 1) := by
  funext j
  unfold iniF
  by_cases e : j = i
  · subst e; simp [f0, h]
  · by_cases e2 : j < i
    · have : j < i + 1 := by omega
      simp [e2, this]
    · have : ¬ j < i + 1 := by omega
      simp [e2, this]
theorem index_wid (i : Nat) (hi : i < 5) (w : World) : (Instr.index 47 (.agg #[.int .i64 1, .int .i64 2, .int .i64 3, .int .i64 6, .int .i64 11]) (.int .i64 (i : Int))).run Tryd.prog w = .ok (.int .i64 ((wid i : Nat) : Int)) w := by
  have : i = 0 ∨ i = 1 ∨ i = 2 ∨ i = 3 ∨ i = 4 := by omega
  rcases this with rfl | rfl | rfl | rfl | rfl <;> (simp [Instr.index, go_sem, Tryd.underlying47]; rfl)
theorem PtrT.ptr {w : World} {v : Value} {t : Ot} (h : PtrT w v t) : ∃ q, v = .pointer q := by
  cases t with
  | none => exact ⟨_, h⟩
  | some x => obtain ⟨b, rfl, -⟩ := h; exact ⟨_, rfl⟩
theorem TxB.cong {w : World} {g : Nat} {f f' : Nat → Ot} {v : Nat → Value} (h : TxB w g f v) (he : ∀ i, i < 5 → f i = f' i) : TxB w g f' v := ⟨h.box, fun i hi => by rw [← he i hi]; exact h.txt i hi⟩
theorem TxB.move1 {w : World} {g g4 : Nat} {f f4 : Nat → Ot} {v v4 : Nat → Value} (h : TxB w g f v) (h4 : TxB w g4 f4 v4) (hne : g ≠ g4) {i : Nat} (hi : i < 5) {q : Option Addr} (hq : v i = .pointer q) :
    TxB (w.setCell ⟨g4, i, none⟩ (.pointer q)) g f v ∧ TxB (w.setCell ⟨g4, i, none⟩ (.pointer q)) g4 (upd f4 i (f i)) (updV v4 i (.pointer q)) :=
  ⟨h.other h4 hne i _, h4.set hi (hq ▸ h.txt i hi)⟩
theorem TxB.move {w : World} {g g4 : Nat} {f f4 : Nat → Ot} {v v4 : Nat → Value} (h : TxB w g f v) (h4 : TxB w g4 f4 v4) (hne : g ≠ g4) {q0 q1 q2 q3 q4 : Option Addr} (e0 : v 0 = .pointer q0) (e1 : v 1 = .pointer q1) (e2 : v 2 = .pointer q2) (e3 : v 3 = .pointer q3) (e4 : v 4 = .pointer q4) :
    ∃ v', TxB (((((w.setCell ⟨g4, 0, none⟩ (.pointer q0)).setCell ⟨g4, 1, none⟩ (.pointer q1)).setCell ⟨g4, 2, none⟩ (.pointer q2)).setCell ⟨g4, 3, none⟩ (.pointer q3)).setCell ⟨g4, 4, none⟩ (.pointer q4)) g4 f v' := by
  obtain ⟨a0, b0⟩ := h.move1 h4 hne (i := 0) (by omega) e0
  obtain ⟨a1, b1⟩ := a0.move1 b0 hne (i := 1) (by omega) e1
  obtain ⟨a2, b2⟩ := a1.move1 b1 hne (i := 2) (by omega) e2
  obtain ⟨a3, b3⟩ := a2.move1 b2 hne (i := 3) (by omega) e3
  obtain ⟨a4, b4⟩ := a3.move1 b3 hne (i := 4) (by omega) e4
  refine ⟨_, b4.cong fun i hi => ?_⟩
  have : i = 0 ∨ i = 1 ∨ i = 2 ∨ i = 3 ∨ i = 4 := by omega
  rcases this with rfl | rfl | rfl | rfl | rfl <;> simp [upd]
theorem Box.own_ {g : Nat} {t : TypeId} {l : Array Value} {W W' : World} {row : Option Nat} (h : Box W g t l) (hg : W.grownBy W' row) (hr : ∀ r, row = some r → ∃ o : Obj, W.heap[r]? = some o ∧ o.isCells = false) : Box W' g t l := by
  refine (World.grownBy.block hg g h.lt (fun e => ?_)).trans h
  obtain ⟨o, h1, h2⟩ := hr g (by first | exact e | exact e.symm)
  have h3 : W.heap[g]? = some (.cells l t (0, 0)) := h
  rw [h3] at h1
  injection h1 with h1
  rw [← h1] at h2
  cases h2
theorem TxB.own {g : Nat} {f : Nat → Ot} {v : Nat → Value} {W W' : World} {row : Option Nat} (h : TxB W g f v) (hg : W.grownBy W' row) (hr : ∀ r, row = some r → ∃ o : Obj, W.heap[r]? = some o ∧ o.isCells = false) : TxB W' g f v := by
  refine ⟨Box.own_ h.box hg hr, fun i hi => ?_⟩
  have h1 := h.txt i hi
  cases hf : f i with
  | none => rw [hf] at h1; exact h1
  | some x =>
    rw [hf] at h1
    obtain ⟨b, hb, hl, hc⟩ := h1
    have hc2 := cell_kept hc hg hr
    exact ⟨b, hb, World.block_lt_of_cell? _ _ hc2, hc2⟩
theorem encF_some : ∀ (l : List Int), (∀ d ∈ l, -1023 ≤ d ∧ d ≤ 1023) → ∀ i, i < 5 → ∃ x, encF l i = some x
  | [], _, i, _ => ⟨[], rfl⟩
  | d :: l, h, i, hi => by
    obtain ⟨x, hx⟩ := encF_some l (fun e he => h e (List.mem_cons_of_mem _ he)) 4 (by omega)
    have hd := h d List.mem_cons_self
    have hc : canD (wid 4) d = true := by
      unfold canD btw
      have : hf (wid 4) = 1024 := by decide
      rw [this]
      simp
      omega
    have h1 : leO (minD upK dnK (f0 (encF l) d) i 5) (cand upK dnK (f0 (encF l) d) i 4) := minD_le upK dnK _ i (by omega)
    have h2 : cand upK dnK (f0 (encF l) d) i 4 = some (toT upK dnK i 4 ++ (wordB (wid 4) d ++ x)) := by
      unfold cand f0
      rw [if_pos hc, hx]
      rfl
    have h3 : encF (d :: l) i = minD upK dnK (f0 (encF l) d) i 5 := rl_min upK dnK _ hi
    rw [h2] at h1
    rw [h3]
    cases hm : minD upK dnK (f0 (encF l) d) i 5 with
    | none => rw [hm] at h1; exact h1.elim
    | some y => exact ⟨y, rfl⟩
theorem leB_one {B : Nat} {g : Nat → Ot} (h : LeB B g) {p : Nat → Tx} (hp : ∀ i, (p i).length ≤ 12) (i : Nat) {j : Nat} (hi : i < 5) (hj : j < 5) : LeB (B + 12) (upd g i (better (g i) (pre (p i) (g j)))) :=
  (h.more (by omega)).upd i (better_len (fun x hx => by have := h i hi x hx; omega) (pre_len (hp i) (h j hj)))
theorem leB_up {B : Nat} {g : Nat → Ot} (h : LeB B g) (i : Nat) : LeB (B + 12) (oneU upK g i) := by
  unfold oneU
  split
  · exact leB_one h (fun i => chg_len i true) i (by omega) (by omega)
  · exact h.more (by omega)
theorem leB_dn {B : Nat} {g : Nat → Ot} (h : LeB B g) {i : Nat} (hi : i < 5) : LeB (B + 12) (oneD dnK g i) := by
  unfold oneD
  split
  · exact leB_one h (fun i => chg_len i false) i hi (by omega)
  · exact h.more (by omega)
theorem leB_sw {B : Nat} {g : Nat → Ot} (h : LeB B g) : ∀ {i : Nat}, i ≤ 5 → LeB (B + 24 * i) (sw upK dnK g i)
  | 0, _ => h
  | i + 1, hi => (leB_dn (leB_up (leB_sw h (i := i) (by omega)) i) (by omega)).more (by omega)
theorem leB_rl {B : Nat} {g : Nat → Ot} (h : LeB B g) : ∀ r, LeB (B + 120 * r) (rl upK dnK g r)
  | 0 => h
  | r + 1 => (leB_sw (leB_rl h r) (Nat.le_refl 5)).more (by omega)
theorem leB_f0 {B : Nat} {g : Nat → Ot} (h : LeB B g) (d : Int) : LeB (B + 11) (f0 g d) := fun i hi x hx => by
  unfold f0 at hx
  split at hx
  · refine pre_len ?_ (h i hi) x hx
    rw [wordB_len]
    rcases wid_ok i with h | h | h | h | h <;> omega
  · cases hx
theorem leB_step {B : Nat} {g : Nat → Ot} (h : LeB B g) (d : Int) : LeB (B + 1000) (stepP g d) := (leB_rl (leB_f0 h d) 5).more (by omega)
set_option maxRecDepth 100000 in
set_option maxHeartbeats 8000000 in
theorem encode_any (A : Option Addr) (c : Nat) (s : List Int) (w : World) (hr : RdI w w.heap.size A s) (hv : vldW s = true) :
    Calls Tryd.prog 21 #[.slice A s.length c] w fun e w' => e = .returned (.string ⟨((encF (difs s) 2).getD []).toArray⟩) ∧ Below w.heap.size w w' := by
  obtain ⟨hv1, hv2, hv3⟩ := vldW_iff.1 hv
  have HWI := Lib.hid widths_any
  have HD := Lib.hid (fun W (hW : Below w.heap.size w W) => differences_any A c s W (hr.on hW) (by omega) hv3)
  unfold LisQ at HD
  unfold widV at HWI
  refine (callsIn_wide (n := 4)).1 ?_
  refine callsIn_of_wp_marks Tryd.func21 rfl trivial ?_ rfl
  refine wpIn_wide.2 ?_
  simp only [Tryd.ntmps21, List.size_toArray, List.length_cons, List.length_nil, Nat.reduceAdd, Nat.reduceSub, Array.replicate_succ, Array.replicate_zero, List.push_toArray, List.append_toArray, List.nil_append, List.cons_append]
  go_upto_region 2 with (go_at_call 25; refine (HWI.out _).mono ?_; rintro e w1 ⟨rfl, h1⟩)
  have hbw := Box.new w1 47 #[.int .i64 1, .int .i64 2, .int .i64 3, .int .i64 6, .int .i64 11]
  have hb1 := h1.trs (below_alloc w1 (.cells #[.int .i64 1, .int .i64 2, .int .i64 3, .int .i64 6, .int .i64 11] 47))
  generalize hw2 : w1.alloc (.cells #[.int .i64 1, .int .i64 2, .int .i64 3, .int .i64 6, .int .i64 11] 47) = w2 at *
  have hg3 : w1.heap.size < w2.heap.size := hbw.lt
  have hg0 : w.heap.size ≤ w1.heap.size := h1.size
  clear hw2 h1
  generalize w1.heap.size = g3 at *
  go_upto_region 3 with (fail)
  have hx4 : TxB (w2.alloc (.cells #[.pointer none, .pointer none, .pointer none, .pointer none, .pointer none] 68)) w2.heap.size (empF 0) (fun _ => .pointer none) := ⟨Box.new w2 _ _, fun i _ => rfl⟩
  have hb2 := hb1.trs (below_alloc w2 (.cells #[.pointer none, .pointer none, .pointer none, .pointer none, .pointer none] 68))
  have hbw2 := hbw.on (below_alloc w2 (.cells #[.pointer none, .pointer none, .pointer none, .pointer none, .pointer none] 68))
  generalize hw3 : w2.alloc (.cells #[.pointer none, .pointer none, .pointer none, .pointer none, .pointer none] 68) = w3 at *
  have hg4 : w2.heap.size < w3.heap.size := hx4.box.lt
  clear hw3 hbw hb1
  generalize w2.heap.size = g4 at *
  have HX4 := Lib.hid (And.intro hx4 (And.intro hb2 hbw2))
  have HES := Lib.hid empF_succ
  clear hx4 hb2 hbw2
  go_wp2
  go_loopg [14] 5 (fun gk t wr => ∃ (j : Nat) (v : Nat → Value), t = .int .i64 j ∧ j ≤ 5 ∧ 5 - j ≤ gk ∧ TxB wr g4 (empF j) v ∧ Below g4 w3 wr)
  case atStart => exact ⟨0, _, rfl, by omega, by omega, HX4.out.1, Below.refl _ _⟩
  case round =>
    obtain ⟨j, v, rfl, hj, hgk, hT, hB⟩ := hrel
    by_cases hlt : j < 5
    · have hltI : (j : Int) < 5 := by omega
      have hc := hT.box.cell hlt
      have hf := hT.box.frozen j
      have HT := Lib.hid (And.intro hT hB)
      have hgw := hT.box.lt
      clear hT hB
      go_wp2
      go_roundg (5 - (j + 1))
      case measure => omega
      case rel =>
        have hal := below_alloc wr (.cells #[.string ⟨#[]⟩] 9)
        have ht2 := HT.out.1.on hal
        have hnew : PtrT (wr.alloc (.cells #[.string ⟨#[]⟩] 9)) (.pointer (some ⟨wr.heap.size, 0, none⟩)) (some []) := ⟨wr.heap.size, rfl, by simp, (Box.new wr 9 #[.string ⟨#[]⟩]).cell 0⟩
        have ht3 := ht2.set hlt hnew
        rw [HES.out] at ht3
        have hsw : (wr.alloc (.cells #[.string ⟨#[]⟩] 9)).setCell ⟨g4, j, none⟩ (.pointer (some ⟨wr.heap.size, 0, none⟩)) = (wr.setCell ⟨g4, j, none⟩ (.pointer (some ⟨wr.heap.size, 0, none⟩))).alloc (.cells #[.string ⟨#[]⟩] 9) := by
          exact World.setCell_alloc_past _ _ _ _ hgw
        rw [hsw] at ht3
        exact ⟨j + 1, _, by go_num, by omega, by omega, ht3, by rw [← hsw]; exact (HT.out.2.trans (hal.mono (Nat.le_of_lt hgw))).setCell (p := ⟨g4, j, none⟩) (Nat.le_refl _) _⟩
    · obtain rfl : j = 5 := by omega
      have HT := Lib.hid (And.intro hT hB)
      clear hT hB
      go_wp2_with (first
        | (go_at_call 23; refine (HD.out _ (HX4.out.2.1.trans (HT.out.2.mono (by omega)))).mono ?_; rintro e w5 ⟨h5, A5, c5, rfl, hr5⟩)
        | (go_at_call 42; refine (Backward_any _ _ _ _).mono ?_; rintro e w6 ⟨rfl, hw6⟩; rw [hw6]; clear hw6))
      have hdl := difs_len s
      have HFA := Lib.hid (foldE_all (difs s))
      have HFS := Lib.hid (foldE_snoc (difs s))
      have HDS := Lib.hid (fun i (hi : i < s.length) => difA_small hv hi)
      have HDX := Lib.hid (fun i (hi : i < s.length) => difs_ix s hi)
      have HSM := Lib.hid (encF_some (difs s) (fun d hd => by
        obtain ⟨i, hi, rfl⟩ := List.mem_iff_getElem.1 hd
        have h1 := HDS.out i (by rw [← hdl]; exact hi)
        have h2 : ix (difs s) i = (difs s)[i] := by simp [ix, hi]
        rw [← HDX.out i (by rw [← hdl]; exact hi), h2] at h1
        exact h1) 2 (by omega))
      generalize hEF : encF (difs s) = EF at *
      generalize hds : difs s = ds at *
      generalize hn : s.length = n at *
      rw [hdl] at HFA ⊢
      have hb5 : Below g4 w3 w5 := HT.out.2.trans (h5.mono (Nat.le_of_lt HT.out.1.box.lt))
      have ht5 := HT.out.1.on h5
      have hbk := below_alloc w5 (.cells #[.slice A5 n c5] 22)
      have hbxB := Box.new w5 22 #[.slice A5 n c5]
      generalize hw6 : w5.alloc (.cells #[.slice A5 n c5] 22) = w6 at *
      obtain ⟨gP, oP, rfl, hgP, hcP⟩ := hr5.at_ (k := 0) (by rw [hdl]; omega)
      have hr6 := hr5.on hbk
      have ht6 := ht5.on hbk
      have hgB : w5.heap.size < w6.heap.size := hbxB.lt
      have hcB : w6.cell? ⟨w5.heap.size, 0, none⟩ = some (.slice (some ⟨gP, oP, none⟩) n c5) := hbxB.cell 0
      have hgPn : gP ≠ g4 := by
        intro e
        subst e
        rw [Box.cell ht5.box] at hcP
        by_cases h5 : oP < 5
        · rw [show oP + 0 = oP from rfl, vals5_get _ h5] at hcP
          obtain ⟨q, hq⟩ := (ht5.txt oP h5).ptr
          rw [hq] at hcP
          cases hcP
        · rw [Array.getElem?_eq_none (by simp [vals5]; omega)] at hcP
          cases hcP
      have hg45 : g4 < w5.heap.size := ht5.box.lt
      clear hcP
      generalize hgBe : w5.heap.size = gB at *
      have hS6 := Back_stops Fence.wide 3 trivial rfl (by omega) gB gP oP c5 ds (by omega) w6 hgB (by rw [hdl]; exact hcB) hr6 (by omega)
      rw [hdl] at hS6
      have HW6 := Lib.hid (And.intro ht6 (hb5.trans (hbk.mono (by have := ht5.box.lt; omega))))
      have hg46 : g4 < w6.heap.size := HW6.out.1.box.lt
      refine (wpIn_wide (n := 4)).1 ?_
      refine wpIn_rangeFunc_ownF (n := 4) rfl (by omega) (gf := 56) (lb := #[.pointer (some ⟨gB, 0, none⟩)]) rfl trivial (enters_of Tryd.func56 (by kernel_rfl) rfl)
        hS6 (fun h k => KpC.trans h k) (fun W l o o' hl h h1 h2 => KpC.books (w := w6) (by simp; omega) W l o o' hl h h1 h2) (Below.refl _ _) (fun _ => rfl)
        (fun pre W => ∃ v, TxB W g4 (foldE ds (pre.map (fun x => x.1))) v ∧ LeB (1000 * pre.length) (foldE ds (pre.map (fun x => x.1))) ∧ pre.length ≤ n ∧ Below g4 w6 W)
        (fun _ _ _ => False)
        (fun s W W' row h hg hr => by
          obtain ⟨v, h1, h2, h3, h4⟩ := h
          exact ⟨v, h1.own hg (fun r e => (hr r e).2), h2, h3, ownFrom_below (β := Unit) (by omega) (by omega) () _ _ row h4 hg hr⟩)
        (fun _ _ _ _ _ hs _ _ => hs)
        ⟨v, HW6.out.1.cong (fun i hi => by simp [foldE, empF, hi]), fun i hi x hx => by simp [foldE] at hx; subst hx; simp, Nat.zero_le _, Below.refl _ _⟩
        (fun x => { tmps := #[.slice A n c, undef, .string ⟨#[]⟩, .pointer (some ⟨g3, 0, none⟩), .pointer (some ⟨g4, 0, none⟩), u5, undef, .int .i64 (ix ds x.1), undef, undef, undef, undef, undef, .agg #[.int .i64 1, .int .i64 2, .int .i64 3, .int .i64 6, .int .i64 11], .int .i64 5, .bool false, u16, u17, u18, u19, u20, .slice A n c, .slice (some ⟨gP, oP, none⟩) n c5, .func (.func 56) #[] #[.pointer (some ⟨gB, 0, none⟩)], .int .i64 x.1, .int .i64 (ix ds x.1), undef, undef, undef, undef, undef, undef, undef, undef, undef, undef, undef, undef, undef, undef, undef, undef, undef, undef, undef, undef, undef, undef, undef, undef, undef, undef, undef, undef, undef, undef, undef, undef, undef, undef, undef, undef, undef, undef, undef, undef, undef, undef, undef, undef, undef, undef, undef, undef, undef, undef, undef, undef, undef, undef, undef, undef, undef, undef, undef, undef, undef, undef, undef], defers := [] }) ?assign ?body ?done ?stop
      case assign =>
        intro l x W K hK
        gi_wp2
        exact hK
      case body =>
        rintro l pre ⟨m, hm⟩ W ⟨vb, hT, hLe, hpl, hB⟩ hpn
        dsimp only
        have hmx : Tryd.prog.follows .mixedOrders = true := by kernel_rfl
        have hB3 : Below g4 w3 W := HW6.out.2.trans hB
        have hbx3 := Box.keep HX4.out.2.2 hB3 (by omega)
        have hnx : TxB (W.alloc (.cells #[.pointer none, .pointer none, .pointer none, .pointer none, .pointer none] 68)) W.heap.size (fun _ => none) (fun _ => .pointer none) := ⟨Box.new W _ _, fun i _ => rfl⟩
        have HBX := Lib.hid hbx3
        have hal := below_alloc W (.cells #[.pointer none, .pointer none, .pointer none, .pointer none, .pointer none] 68)
        have hT1 := hT.on hal
        have hbx4 := hbx3.on hal
        have hg3W : g3 < W.heap.size := hbx3.lt
        have hg4W : g4 < W.heap.size := hT.box.lt
        have d0 := hbx3.cell 0
        have d1 := hbx3.cell 1
        have d2 := hbx3.cell 2
        have d3 := hbx3.cell 3
        have d4 := hbx3.cell 4
        simp at d0 d1 d2 d3 d4
        have HAS := Lib.hid (fun i W' => has_any (wid i) (ix ds m) W' (wid_ok i))
        have HLE := Lib.hid (hLe.more (show 1000 * pre.length ≤ 100000000 by omega))
        have HLR := Lib.hid (fun r => leB_rl (leB_f0 hLe (ix ds m)) r)
        have HGE : Hid (foldE ds ((pre ++ [(⟨m, hm⟩ : Sub n)]).map (fun x => x.1)) = rl upK dnK (f0 (foldE ds (pre.map (fun x => x.1))) (ix ds m)) 5) := Lib.hid (by rw [List.map_append]; exact HFS.out _ _)
        have HLN : Hid (LeB (1000 * (pre ++ [(⟨m, hm⟩ : Sub n)]).length) (foldE ds ((pre ++ [(⟨m, hm⟩ : Sub n)]).map (fun x => x.1)))) := Lib.hid (by rw [HGE.out, List.length_append]; exact (leB_step hLe (ix ds m)).more (by simp; omega))
        have HDM : Hid (∀ m, m < n → -1023 ≤ ix ds m ∧ ix ds m ≤ 1023) := Lib.hid (fun m hm => by rw [HDX.out m hm]; exact HDS.out m hm)
        have HIZ := Lib.hid (iniF_zero (foldE ds (pre.map (fun x => x.1))) (ix ds m))
        have HWRK := Lib.hid (And.intro hT1 (And.intro hal (And.intro hbx4 hB)))
        rw [← HIZ.out] at hnx
        have HNX := Lib.hid hnx
        clear hT hB hB3 hnx hT1 hal hbx4 hbx3
        gi_wp2
        gi_loopw [27] (fun t wr => ∃ (i : Nat) (v8 : Nat → Value), t = .int .i64 i ∧ i ≤ 5 ∧ TxB wr W.heap.size (iniF (foldE ds (pre.map (fun x => x.1))) (ix ds m) i) v8 ∧ TxB wr g4 (foldE ds (pre.map (fun x => x.1))) vb ∧ Below W.heap.size W wr) (fun t _ => (5 - intOf t).toNat)
        case atStart => exact ⟨0, _, rfl, by omega, HNX.out, HWRK.out.1, HWRK.out.2.1⟩
        case round =>
          obtain ⟨i, v8, rfl, hi, hT8, hT4, hBi⟩ := hrel
          by_cases hlt : i < 5
          · have hltI : (i : Int) < 5 := by omega
            have HVX := Lib.hid (index_wid i hlt)
            have HASi := Lib.hid (HAS.out i)
            cases hcan : canD (wid i) (ix ds m)
            · rw [hcan] at HASi
              gi_wp2_with (first
                | (rw [HVX.out])
                | (refine ⟨trivial, ?_⟩; gi_at_call 28; refine (CallsIn.inRound l (callsIn_wide.2 (HASi.out _))).mono ?_; rintro e w' ⟨rfl, rfl⟩))
              exact ⟨⟨i + 1, v8, by go_num, by omega, by rw [← iniF_no hcan]; exact hT8, hT4, hBi⟩, by simp [intOf]; omega⟩
            · rw [hcan] at HASi
              have hdm := HDM.out m hm
              have HWD := Lib.hid (fun W' => word_any (wid i) (ix ds m) W' (by rcases wid_ok i with h | h | h | h | h <;> omega) (by omega) (by omega))
              have HBF := Lib.hid (fun W' v h => before_any (wordB (wid i) (ix ds m)) v (foldE ds (pre.map (fun x => x.1)) i) W' (by rw [wordB_len]; rcases wid_ok i with h | h | h | h | h <;> omega) (fun x hx => by have := HLE.out i hlt x hx; omega) h)
              have HCAN := Lib.hid hcan
              clear hcan
              gi_wp2_with (first
                | (rw [HVX.out])
                | (refine ⟨trivial, ?_⟩; gi_at_call 28; refine (CallsIn.inRound l (callsIn_wide.2 (HASi.out _))).mono ?_; rintro e w' ⟨rfl, rfl⟩))
              have c4 := hT4.box.cell hlt
              have c8 := hT8.box.cell hlt
              have f8 := hT8.box.frozen i
              have HT := Lib.hid (And.intro hT8 (And.intro hT4 hBi))
              clear hT8 hT4 hBi
              generalize hv4 : vb i = u4 at *
              generalize hv8 : v8 i = u8 at *
              refine round_region_held (S := fun w' => w'.cell? ⟨g4, i, none⟩ = some u4) (by kernel_rfl) (by kernel_rfl) c4 (fun hHeld => ?_)
              refine wpAnyH_take (i := 0) (v := .int .i64 i) rfl (by kernel_rfl) (by kernel_rfl) (by kernel_rfl) (fun _ _ _ h => h) (Or.inl ⟨by rfl, fun w hSw => ?_⟩) (by assumption) ?_
              · dsimp only at hSw; go_simp
              try simp only [Act.put, List.setIfInBounds_toArray, List.set_cons_zero, List.set_cons_succ]
              refine wpAnyH_take (i := 1) (v := .int .i64 (wid i : Nat)) rfl (by kernel_rfl) (by kernel_rfl) (by kernel_rfl) (fun _ _ _ h => h) (Or.inl ⟨by rfl, fun w hSw => ?_⟩) (by assumption) ?_
              · dsimp only at hSw; go_simp
              try simp only [Act.put, List.setIfInBounds_toArray, List.set_cons_zero, List.set_cons_succ]
              refine wpAnyH_take (i := 2) (v := .int .i64 (ix ds m)) rfl (by kernel_rfl) (by kernel_rfl) (by kernel_rfl) (fun _ _ _ h => h) (Or.inl ⟨by rfl, fun w hSw => ?_⟩) (by assumption) ?_
              · dsimp only at hSw; go_simp
              try simp only [Act.put, List.setIfInBounds_toArray, List.set_cons_zero, List.set_cons_succ]
              refine wpAnyH_take (i := 4) (v := .int .i64 i) rfl (by kernel_rfl) (by kernel_rfl) (by kernel_rfl) (fun _ _ _ h => h) (Or.inl ⟨by rfl, fun w hSw => ?_⟩) (by assumption) ?_
              · dsimp only at hSw; go_simp
              try simp only [Act.put, List.setIfInBounds_toArray, List.set_cons_zero, List.set_cons_succ]
              refine wpAnyH_take (i := 5) (v := .pointer (some ⟨g4, i, none⟩)) rfl (by kernel_rfl) (by kernel_rfl) (by kernel_rfl) (fun _ _ _ h => h) (Or.inl ⟨by rfl, fun w hSw => ?_⟩) (by assumption) ?_
              · dsimp only at hSw; go_simp
              try simp only [Act.put, List.setIfInBounds_toArray, List.set_cons_zero, List.set_cons_succ]
              refine wpAnyH_take (i := 6) (v := u4) rfl (by kernel_rfl) (by kernel_rfl) (by kernel_rfl) (fun _ _ _ h => h) (Or.inl ⟨by rfl, fun w hSw => ?_⟩) (by assumption) ?_
              · dsimp only at hSw; go_simp
              try simp only [Act.put, List.setIfInBounds_toArray, List.set_cons_zero, List.set_cons_succ]
              refine wpAnyH_ready (rs := [3]) (by kernel_rfl) (by simp) (AllReadyH.cons rfl (fun K hK => ?_) AllReadyH.nil)
              go_simp
              refine Calls.mono (HWD.out _) ?_
              rintro e w3 ⟨rfl, h3⟩
              have hl4 := HT.out.2.1.box.lt
              have hl8 := HT.out.1.box.lt
              try dsimp only
              refine hK.out _ _ ((h3.cell (p := ⟨g4, i, none⟩) hl4).trans c4) (fun hHeld => ?_)
              clear hK K
              try simp only [Act.put, List.setIfInBounds_toArray, List.set_cons_zero, List.set_cons_succ]
              refine wpAnyH_ready (rs := [7]) (by kernel_rfl) (by simp) (AllReadyH.cons rfl (fun K hK => ?_) AllReadyH.nil)
              go_simp
              have hT43 := (HT.out.2.1.on (Below.refl _ _).drew).on h3
              have hp4 := hT43.txt i hlt
              rw [hv4] at hp4
              refine Calls.mono (HBF.out _ _ hp4) ?_
              rintro e w4 ⟨v', rfl, hv', h4⟩
              have hl43 : g4 < w3.heap.size := hT43.box.lt
              have hT83 := (HT.out.1.on (Below.refl _ _).drew).on h3
              have hl83 : W.heap.size < w3.heap.size := hT83.box.lt
              have c44 := (h4.cell (p := ⟨g4, i, none⟩) hl43).trans ((h3.cell (p := ⟨g4, i, none⟩) hl4).trans c4)
              have c84 := (h4.cell (p := ⟨W.heap.size, i, none⟩) hl83).trans ((h3.cell (p := ⟨W.heap.size, i, none⟩) hl8).trans c8)
              have f84 := (h4.frozen (p := ⟨W.heap.size, i, none⟩) hl83).trans ((h3.frozen (p := ⟨W.heap.size, i, none⟩) hl8).trans f8)
              try dsimp only
              refine hK.out _ _ c44 (fun hHeld => ?_)
              clear hK K
              try simp only [Act.put, List.setIfInBounds_toArray, List.set_cons_zero, List.set_cons_succ]
              refine wpAnyH_take (i := 8) (v := .pointer (some ⟨W.heap.size, i, none⟩)) rfl (by kernel_rfl) (by kernel_rfl) (by kernel_rfl) (fun _ _ _ h => h) (Or.inl ⟨by rfl, fun w hSw => ?_⟩) (by assumption) ?_
              · dsimp only at hSw; go_simp
              try simp only [Act.put, List.setIfInBounds_toArray, List.set_cons_zero, List.set_cons_succ]
              refine wpAnyH_ready (rs := [9]) (by kernel_rfl) (by simp) (AllReadyH.cons rfl (fun K hK => ?_) AllReadyH.nil)
              obtain ⟨q, rfl⟩ := hv'.ptr
              go_simp
              have hne : g4 ≠ W.heap.size := by omega
              refine hK.out _ _ (by rw [World.cell?_setCell_other _ _ _ _ (by intro e; injection e with e1; exact hne e1.symm)]; exact c44) (fun hHeld => ?_)
              clear hK K
              try simp only [Act.put, List.setIfInBounds_toArray, List.set_cons_zero, List.set_cons_succ]
              refine wpAnyH_done (by kernel_rfl) ?_ _
              refine NoOut.normal ?_
              have hfin8 := (hT83.on h4).set hlt hv'
              rw [iniF_yes HCAN.out] at hfin8
              have hfin4 := (hT43.on h4).other (hT83.on h4) hne i (.pointer q)
              have hfinB := (((HT.out.2.2.trs (Below.refl _ _).drew).trs h3).trs h4).setCell (p := ⟨W.heap.size, i, none⟩) (Nat.le_refl _) (.pointer q)
              have HF := Lib.hid (And.intro hfin8 (And.intro hfin4 hfinB))
              clear hfin8 hfin4 hfinB c44 c84 f84 hT43 hT83 c4 c8 f8
              gi_wp2
              exact ⟨⟨i + 1, _, by go_num, by omega, HF.out.1, HF.out.2.1, HF.out.2.2⟩, by simp [intOf]; omega⟩
          · obtain rfl : i = 5 := by omega
            have HT0 := Lib.hid (And.intro (hT8.cong (fun j hj => iniF_five _ _ hj)) (And.intro hT4 hBi))
            clear hT8 hT4 hBi
            generalize f0 (foldE ds (pre.map (fun x => x.1))) (ix ds m) = G0 at *
            gi_wp2
            gi_loopw [44] (fun t wr => ∃ (r : Nat) (v8 : Nat → Value), t = .int .i64 r ∧ r ≤ 5 ∧ TxB wr W.heap.size (rl upK dnK G0 r) v8 ∧ TxB wr g4 (foldE ds (pre.map (fun x => x.1))) vb ∧ Below W.heap.size W wr) (fun t _ => (5 - intOf t).toNat)
            case atStart => exact ⟨0, _, rfl, by omega, HT0.out.1, HT0.out.2.1, HT0.out.2.2⟩
            case round =>
              obtain ⟨r, v7, rfl, hrr, hT8, hT4, hBi⟩ := hrel
              by_cases hrl : r < 5
              · have hrI : (r : Int) < 5 := by omega
                have hbx3 := Box.keep HBX.out hBi hg3W
                have d0 := hbx3.cell 0
                have d1 := hbx3.cell 1
                have d2 := hbx3.cell 2
                have d3 := hbx3.cell 3
                have d4 := hbx3.cell 4
                simp at d0 d1 d2 d3 d4
                have HT1 := Lib.hid (And.intro hT8 (And.intro hT4 hBi))
                clear hT8 hT4 hBi hbx3
                gi_wp2
                gi_loopw [47] (fun t wr => ∃ (i : Nat) (v8 : Nat → Value), t = .int .i64 i ∧ i ≤ 5 ∧ TxB wr W.heap.size (sw upK dnK (rl upK dnK G0 r) i) v8 ∧ TxB wr g4 (foldE ds (pre.map (fun x => x.1))) vb ∧ Below W.heap.size W wr) (fun t _ => (5 - intOf t).toNat)
                case atStart => exact ⟨0, _, rfl, by omega, HT1.out.1, HT1.out.2.1, HT1.out.2.2⟩
                case round =>
                  obtain ⟨i, v8, rfl, hi, hT8, hT4, hBi⟩ := hrel
                  by_cases hlt : i < 5
                  · have hltI : (i : Int) < 5 := by omega
                    have HVX := Lib.hid (index_wid i hlt)
                    have hLG : LeB 900000000 (sw upK dnK (rl upK dnK G0 r) i) := (leB_sw (HLR.out r) hi).more (by omega)
                    have HGN : Hid (sw upK dnK (rl upK dnK G0 r) (i + 1) = oneD dnK (oneU upK (sw upK dnK (rl upK dnK G0 r) i) i) i) := Lib.hid rfl
                    generalize sw upK dnK (rl upK dnK G0 r) i = G at *
                    have hLU := leB_up hLG i
                    have HT := Lib.hid (And.intro hT8 (And.intro hT4 hBi))
                    clear hT8 hT4 hBi d0 d1 d2 d3 d4
                    by_cases hj : i + 1 < 5
                    · obtain ⟨j, hjd⟩ : ∃ j, j = i + 1 := ⟨_, rfl⟩
                      have hj5 : j < 5 := by omega
                      have hjI : (j : Int) < 5 := by omega
                      have hj0 : (0 : Int) ≤ (j : Int) := by omega
                      have e1 : IntKind.i64.wrap ((i : Int) + 1) = (j : Int) := by rw [IntWalk.i64_in _ (by omega)]; omega
                      have e2 : wrap64 ((i : Int) + 1) = (j : Int) := by rw [IntWalk.wrap64_in _ (by omega)]; omega
                      have HCH := Lib.hid (fun W' => change_any i true W')
                      have HBF := Lib.hid (fun W' v h => before_any (chg i true) v (G j) W' (by have := chg_len i true; omega) (fun x hx => by have := hLG j hj5 x hx; omega) h)
                      have HPJ : Hid (oneU upK G i = upd G i (better (G i) (Proofs.YtkjiancdhaocaaaDoor.pre (chg i true) (G j)))) := by
                        refine Lib.hid ?_
                        unfold oneU upK
                        rw [if_pos hj, hjd]
                      clear hjd
                      gi_wp2_with (rw [HVX.out])
                      have c8 := HT.out.1.box.cell hlt
                      have c9 := HT.out.1.box.cell hj5
                      have f8 := HT.out.1.box.frozen i
                      refine round_region_ord (fun w' => w'.cell? ⟨W.heap.size, i, none⟩ = some (v8 i) ∧ w'.cell? ⟨W.heap.size, j, none⟩ = some (v8 j)) 13 (by kernel_rfl) (by kernel_rfl) ?_
                      have hS := And.intro c8 c9
                      refine Ord.take (i := 0) (v := .int .i64 i) rfl (by kernel_rfl) (by kernel_rfl) (by kernel_rfl) (by kernel_rfl) (fun _ _ _ h => h) (Or.inl ⟨by rfl, fun w hSw => ?_⟩) hS ?_
                      · obtain ⟨hs1, hs2⟩ := hSw; clear hS c8 c9 f8; go_simp
                      try simp only [Act.put, List.setIfInBounds_toArray, List.set_cons_zero, List.set_cons_succ]
                      refine Ord.take (i := 1) (v := .int .i64 i) rfl (by kernel_rfl) (by kernel_rfl) (by kernel_rfl) (by kernel_rfl) (fun _ _ _ h => h) (Or.inl ⟨by rfl, fun w hSw => ?_⟩) hS ?_
                      · obtain ⟨hs1, hs2⟩ := hSw; clear hS c8 c9 f8; go_simp
                      try simp only [Act.put, List.setIfInBounds_toArray, List.set_cons_zero, List.set_cons_succ]
                      refine Ord.take (i := 2) (v := .pointer (some ⟨W.heap.size, i, none⟩)) rfl (by kernel_rfl) (by kernel_rfl) (by kernel_rfl) (by kernel_rfl) (fun _ _ _ h => h) (Or.inl ⟨by rfl, fun w hSw => ?_⟩) hS ?_
                      · obtain ⟨hs1, hs2⟩ := hSw; clear hS c8 c9 f8; go_simp
                      try simp only [Act.put, List.setIfInBounds_toArray, List.set_cons_zero, List.set_cons_succ]
                      refine Ord.take (i := 3) (v := v8 i) rfl (by kernel_rfl) (by kernel_rfl) (by kernel_rfl) (by kernel_rfl) (fun _ _ _ h => h) (Or.inl ⟨by rfl, fun w hSw => ?_⟩) hS ?_
                      · obtain ⟨hs1, hs2⟩ := hSw; clear hS c8 c9 f8; go_simp
                      try simp only [Act.put, List.setIfInBounds_toArray, List.set_cons_zero, List.set_cons_succ]
                      refine Ord.take (i := 4) (v := .int .i64 (wid i : Nat)) rfl (by kernel_rfl) (by kernel_rfl) (by kernel_rfl) (by kernel_rfl) (fun _ _ _ h => h) (Or.inl ⟨by rfl, fun w hSw => ?_⟩) hS ?_
                      · obtain ⟨hs1, hs2⟩ := hSw; clear hS c8 c9 f8; go_simp
                      try simp only [Act.put, List.setIfInBounds_toArray, List.set_cons_zero, List.set_cons_succ]
                      refine Ord.take (i := 6) (v := .int .i64 i) rfl (by kernel_rfl) (by kernel_rfl) (by kernel_rfl) (by kernel_rfl) (fun _ _ _ h => h) (Or.inl ⟨by rfl, fun w hSw => ?_⟩) hS ?_
                      · obtain ⟨hs1, hs2⟩ := hSw; clear hS c8 c9 f8; go_simp
                      try simp only [Act.put, List.setIfInBounds_toArray, List.set_cons_zero, List.set_cons_succ]
                      refine Ord.take (i := 7) (v := .int .i64 (j : Nat)) rfl (by kernel_rfl) (by kernel_rfl) (by kernel_rfl) (by kernel_rfl) (fun _ _ _ h => h) (Or.inl ⟨by rfl, fun w hSw => ?_⟩) hS ?_
                      · obtain ⟨hs1, hs2⟩ := hSw; clear hS c8 c9 f8; go_simp
                      try simp only [Act.put, List.setIfInBounds_toArray, List.set_cons_zero, List.set_cons_succ]
                      refine Ord.take (i := 8) (v := .pointer (some ⟨W.heap.size, j, none⟩)) rfl (by kernel_rfl) (by kernel_rfl) (by kernel_rfl) (by kernel_rfl) (fun _ _ _ h => h) (Or.inl ⟨by rfl, fun w hSw => ?_⟩) hS ?_
                      · obtain ⟨hs1, hs2⟩ := hSw; clear hS c8 c9 f8; go_simp
                      try simp only [Act.put, List.setIfInBounds_toArray, List.set_cons_zero, List.set_cons_succ]
                      refine Ord.take (i := 9) (v := v8 j) rfl (by kernel_rfl) (by kernel_rfl) (by kernel_rfl) (by kernel_rfl) (fun _ _ _ h => h) (Or.inl ⟨by rfl, fun w hSw => ?_⟩) hS ?_
                      · obtain ⟨hs1, hs2⟩ := hSw; clear hS c8 c9 f8; go_simp
                      try simp only [Act.put, List.setIfInBounds_toArray, List.set_cons_zero, List.set_cons_succ]
                      refine Ord.one (i := 5) (by kernel_rfl) rfl (fun K hK => ?_)
                      go_simp
                      refine Calls.mono (HCH.out _) ?_
                      rintro e w3 ⟨rfl, h3⟩
                      try dsimp only
                      have hl8 := HT.out.1.box.lt
                      have c83 := (h3.cell (p := ⟨W.heap.size, i, none⟩) hl8).trans hS.1
                      have c93 := (h3.cell (p := ⟨W.heap.size, j, none⟩) hl8).trans hS.2
                      have f83 := (h3.frozen (p := ⟨W.heap.size, i, none⟩) hl8).trans f8
                      refine hK.out _ _ (fun _ => ⟨c83, c93⟩) (fun _ => ?_)
                      clear hK K hS c8 c9 f8
                      try simp only [Act.put, List.setIfInBounds_toArray, List.set_cons_zero, List.set_cons_succ]
                      refine Ord.one (i := 10) (by kernel_rfl) rfl (fun K hK => ?_)
                      go_simp
                      have hT3 := (HT.out.1.on (Below.refl _ _).drew).on h3
                      refine Calls.mono (HBF.out _ _ (hT3.txt j hj5)) ?_
                      rintro e w4 ⟨u9, rfl, hu9, h4⟩
                      try dsimp only
                      have hl83 : W.heap.size < w3.heap.size := hT3.box.lt
                      have c84 := (h4.cell (p := ⟨W.heap.size, i, none⟩) hl83).trans c83
                      have c94 := (h4.cell (p := ⟨W.heap.size, j, none⟩) hl83).trans c93
                      have f84 := (h4.frozen (p := ⟨W.heap.size, i, none⟩) hl83).trans f83
                      refine hK.out _ _ (fun _ => ⟨c84, c94⟩) (fun _ => ?_)
                      clear hK K c83 c93 f83
                      try simp only [Act.put, List.setIfInBounds_toArray, List.set_cons_zero, List.set_cons_succ]
                      refine Ord.one (i := 11) (by kernel_rfl) rfl (fun K hK => ?_)
                      go_simp
                      have hT4w := hT3.on h4
                      refine Calls.mono (better_any _ _ _ _ _ (hT4w.txt i hlt) hu9) ?_
                      rintro e w5' ⟨ub, rfl, -, hub, h5'⟩
                      try dsimp only
                      have hl84 : W.heap.size < w4.heap.size := hT4w.box.lt
                      have c85 := (h5'.cell (p := ⟨W.heap.size, i, none⟩) hl84).trans c84
                      have c95 := (h5'.cell (p := ⟨W.heap.size, j, none⟩) hl84).trans c94
                      have f85 := (h5'.frozen (p := ⟨W.heap.size, i, none⟩) hl84).trans f84
                      refine hK.out _ _ (fun _ => ⟨c85, c95⟩) (fun _ => ?_)
                      have hS := And.intro c85 c95
                      clear hK K c84 c94 f84
                      try simp only [Act.put, List.setIfInBounds_toArray, List.set_cons_zero, List.set_cons_succ]
                      refine Ord.take (i := 12) (v := .pointer (some ⟨W.heap.size, i, none⟩)) rfl (by kernel_rfl) (by kernel_rfl) (by kernel_rfl) (by kernel_rfl) (fun _ _ _ h => h) (Or.inl ⟨by rfl, fun w hSw => ?_⟩) hS ?_
                      · clear hSw; clear hS c85 c95 f85; go_simp
                      try simp only [Act.put, List.setIfInBounds_toArray, List.set_cons_zero, List.set_cons_succ]
                      obtain ⟨q, rfl⟩ := hub.ptr
                      refine Ord.one (i := 13) (by kernel_rfl) rfl (fun K hK => ?_)
                      go_simp
                      refine hK.out _ _ (fun h => absurd rfl h) (fun _ => ?_)
                      clear hK K
                      try simp only [Act.put, List.setIfInBounds_toArray, List.set_cons_zero, List.set_cons_succ]
                      refine Ord.done (by kernel_rfl) ?_ _
                      refine NoOut.normal ?_
                      have hne : g4 ≠ W.heap.size := by omega
                      have hfin8 := (hT4w.on h5').set hlt hub
                      rw [← HPJ.out] at hfin8
                      have hfin4 := ((((HT.out.2.1.on (Below.refl _ _).drew).on h3).on h4).on h5').other (hT4w.on h5') hne i (.pointer q)
                      have hfinB := ((((HT.out.2.2.trs (Below.refl _ _).drew).trs h3).trs h4).trs h5').setCell (p := ⟨W.heap.size, i, none⟩) (Nat.le_refl _) (.pointer q)
                      generalize w5'.setCell ⟨W.heap.size, i, none⟩ (.pointer q) = wz at *
                      have HF := Lib.hid (And.intro hfin8 (And.intro hfin4 hfinB))
                      clear hfin8 hfin4 hfinB c85 c95 f85 hT3 hT4w hS hub hu9 h3 h4 h5' hl8 hl83 hl84 HCH HBF HPJ HT
                      generalize oneU upK G i = G2 at *
                      clear hj5 hjI hj0 e1 e2
                      obtain ⟨v8, HT2⟩ : ∃ v8, Hid (TxB wz W.heap.size G2 v8 ∧ TxB wz g4 (foldE ds (pre.map (fun x => x.1))) vb ∧ Below W.heap.size W wz) := ⟨_, HF⟩
                      clear HF
                      by_cases h0 : 0 < i
                      · obtain ⟨j, hjd⟩ : ∃ j, j = i - 1 := ⟨_, rfl⟩
                        have hj5 : j < 5 := by omega
                        have hjI : (j : Int) < 5 := by omega
                        have hj0 : (0 : Int) ≤ (j : Int) := by omega
                        have h0I : (0 : Int) < (i : Int) := by omega
                        have e1 : IntKind.i64.wrap ((i : Int) - 1) = (j : Int) := by rw [IntWalk.i64_in _ (by omega)]; omega
                        have e2 : wrap64 ((i : Int) - 1) = (j : Int) := by rw [IntWalk.wrap64_in _ (by omega)]; omega
                        have HCH := Lib.hid (fun W' => change_any i false W')
                        have HBF := Lib.hid (fun W' v h => before_any (chg i false) v (G2 j) W' (by have := chg_len i false; omega) (fun x hx => by have := hLU j hj5 x hx; omega) h)
                        have HPJ : Hid (oneD dnK (G2) i = upd (G2) i (better ((G2) i) (Proofs.YtkjiancdhaocaaaDoor.pre (chg i false) ((G2) j)))) := by
                          refine Lib.hid ?_
                          unfold oneD dnK
                          rw [if_pos h0, hjd]
                        clear hjd
                        gi_wp2
                        have c8 := HT2.out.1.box.cell hlt
                        have c9 := HT2.out.1.box.cell hj5
                        have f8 := HT2.out.1.box.frozen i
                        refine round_region_ord (fun w' => w'.cell? ⟨W.heap.size, i, none⟩ = some (v8 i) ∧ w'.cell? ⟨W.heap.size, j, none⟩ = some (v8 j)) 13 (by kernel_rfl) (by kernel_rfl) ?_
                        have hS := And.intro c8 c9
                        refine Ord.take (i := 0) (v := .int .i64 i) rfl (by kernel_rfl) (by kernel_rfl) (by kernel_rfl) (by kernel_rfl) (fun _ _ _ h => h) (Or.inl ⟨by rfl, fun w hSw => ?_⟩) hS ?_
                        · obtain ⟨hs1, hs2⟩ := hSw; clear hS c8 c9 f8; go_simp
                        try simp only [Act.put, List.setIfInBounds_toArray, List.set_cons_zero, List.set_cons_succ]
                        refine Ord.take (i := 1) (v := .int .i64 i) rfl (by kernel_rfl) (by kernel_rfl) (by kernel_rfl) (by kernel_rfl) (fun _ _ _ h => h) (Or.inl ⟨by rfl, fun w hSw => ?_⟩) hS ?_
                        · obtain ⟨hs1, hs2⟩ := hSw; clear hS c8 c9 f8; go_simp
                        try simp only [Act.put, List.setIfInBounds_toArray, List.set_cons_zero, List.set_cons_succ]
                        refine Ord.take (i := 2) (v := .pointer (some ⟨W.heap.size, i, none⟩)) rfl (by kernel_rfl) (by kernel_rfl) (by kernel_rfl) (by kernel_rfl) (fun _ _ _ h => h) (Or.inl ⟨by rfl, fun w hSw => ?_⟩) hS ?_
                        · obtain ⟨hs1, hs2⟩ := hSw; clear hS c8 c9 f8; go_simp
                        try simp only [Act.put, List.setIfInBounds_toArray, List.set_cons_zero, List.set_cons_succ]
                        refine Ord.take (i := 3) (v := v8 i) rfl (by kernel_rfl) (by kernel_rfl) (by kernel_rfl) (by kernel_rfl) (fun _ _ _ h => h) (Or.inl ⟨by rfl, fun w hSw => ?_⟩) hS ?_
                        · obtain ⟨hs1, hs2⟩ := hSw; clear hS c8 c9 f8; go_simp
                        try simp only [Act.put, List.setIfInBounds_toArray, List.set_cons_zero, List.set_cons_succ]
                        refine Ord.take (i := 4) (v := .int .i64 (wid i : Nat)) rfl (by kernel_rfl) (by kernel_rfl) (by kernel_rfl) (by kernel_rfl) (fun _ _ _ h => h) (Or.inl ⟨by rfl, fun w hSw => ?_⟩) hS ?_
                        · obtain ⟨hs1, hs2⟩ := hSw; clear hS c8 c9 f8; go_simp
                        try simp only [Act.put, List.setIfInBounds_toArray, List.set_cons_zero, List.set_cons_succ]
                        refine Ord.take (i := 6) (v := .int .i64 i) rfl (by kernel_rfl) (by kernel_rfl) (by kernel_rfl) (by kernel_rfl) (fun _ _ _ h => h) (Or.inl ⟨by rfl, fun w hSw => ?_⟩) hS ?_
                        · obtain ⟨hs1, hs2⟩ := hSw; clear hS c8 c9 f8; go_simp
                        try simp only [Act.put, List.setIfInBounds_toArray, List.set_cons_zero, List.set_cons_succ]
                        refine Ord.take (i := 7) (v := .int .i64 (j : Nat)) rfl (by kernel_rfl) (by kernel_rfl) (by kernel_rfl) (by kernel_rfl) (fun _ _ _ h => h) (Or.inl ⟨by rfl, fun w hSw => ?_⟩) hS ?_
                        · obtain ⟨hs1, hs2⟩ := hSw; clear hS c8 c9 f8; go_simp
                        try simp only [Act.put, List.setIfInBounds_toArray, List.set_cons_zero, List.set_cons_succ]
                        refine Ord.take (i := 8) (v := .pointer (some ⟨W.heap.size, j, none⟩)) rfl (by kernel_rfl) (by kernel_rfl) (by kernel_rfl) (by kernel_rfl) (fun _ _ _ h => h) (Or.inl ⟨by rfl, fun w hSw => ?_⟩) hS ?_
                        · obtain ⟨hs1, hs2⟩ := hSw; clear hS c8 c9 f8; go_simp
                        try simp only [Act.put, List.setIfInBounds_toArray, List.set_cons_zero, List.set_cons_succ]
                        refine Ord.take (i := 9) (v := v8 j) rfl (by kernel_rfl) (by kernel_rfl) (by kernel_rfl) (by kernel_rfl) (fun _ _ _ h => h) (Or.inl ⟨by rfl, fun w hSw => ?_⟩) hS ?_
                        · obtain ⟨hs1, hs2⟩ := hSw; clear hS c8 c9 f8; go_simp
                        try simp only [Act.put, List.setIfInBounds_toArray, List.set_cons_zero, List.set_cons_succ]
                        refine Ord.one (i := 5) (by kernel_rfl) rfl (fun K hK => ?_)
                        go_simp
                        refine Calls.mono (HCH.out _) ?_
                        rintro e w3 ⟨rfl, h3⟩
                        try dsimp only
                        have hl8 := HT2.out.1.box.lt
                        have c83 := (h3.cell (p := ⟨W.heap.size, i, none⟩) hl8).trans hS.1
                        have c93 := (h3.cell (p := ⟨W.heap.size, j, none⟩) hl8).trans hS.2
                        have f83 := (h3.frozen (p := ⟨W.heap.size, i, none⟩) hl8).trans f8
                        refine hK.out _ _ (fun _ => ⟨c83, c93⟩) (fun _ => ?_)
                        clear hK K hS c8 c9 f8
                        try simp only [Act.put, List.setIfInBounds_toArray, List.set_cons_zero, List.set_cons_succ]
                        refine Ord.one (i := 10) (by kernel_rfl) rfl (fun K hK => ?_)
                        go_simp
                        have hT3 := (HT2.out.1.on (Below.refl _ _).drew).on h3
                        refine Calls.mono (HBF.out _ _ (hT3.txt j hj5)) ?_
                        rintro e w4 ⟨u9, rfl, hu9, h4⟩
                        try dsimp only
                        have hl83 : W.heap.size < w3.heap.size := hT3.box.lt
                        have c84 := (h4.cell (p := ⟨W.heap.size, i, none⟩) hl83).trans c83
                        have c94 := (h4.cell (p := ⟨W.heap.size, j, none⟩) hl83).trans c93
                        have f84 := (h4.frozen (p := ⟨W.heap.size, i, none⟩) hl83).trans f83
                        refine hK.out _ _ (fun _ => ⟨c84, c94⟩) (fun _ => ?_)
                        clear hK K c83 c93 f83
                        try simp only [Act.put, List.setIfInBounds_toArray, List.set_cons_zero, List.set_cons_succ]
                        refine Ord.one (i := 11) (by kernel_rfl) rfl (fun K hK => ?_)
                        go_simp
                        have hT4w := hT3.on h4
                        refine Calls.mono (better_any _ _ _ _ _ (hT4w.txt i hlt) hu9) ?_
                        rintro e w5' ⟨ub, rfl, -, hub, h5'⟩
                        try dsimp only
                        have hl84 : W.heap.size < w4.heap.size := hT4w.box.lt
                        have c85 := (h5'.cell (p := ⟨W.heap.size, i, none⟩) hl84).trans c84
                        have c95 := (h5'.cell (p := ⟨W.heap.size, j, none⟩) hl84).trans c94
                        have f85 := (h5'.frozen (p := ⟨W.heap.size, i, none⟩) hl84).trans f84
                        refine hK.out _ _ (fun _ => ⟨c85, c95⟩) (fun _ => ?_)
                        have hS := And.intro c85 c95
                        clear hK K c84 c94 f84
                        try simp only [Act.put, List.setIfInBounds_toArray, List.set_cons_zero, List.set_cons_succ]
                        refine Ord.take (i := 12) (v := .pointer (some ⟨W.heap.size, i, none⟩)) rfl (by kernel_rfl) (by kernel_rfl) (by kernel_rfl) (by kernel_rfl) (fun _ _ _ h => h) (Or.inl ⟨by rfl, fun w hSw => ?_⟩) hS ?_
                        · clear hSw; clear hS c85 c95 f85; go_simp
                        try simp only [Act.put, List.setIfInBounds_toArray, List.set_cons_zero, List.set_cons_succ]
                        obtain ⟨q, rfl⟩ := hub.ptr
                        refine Ord.one (i := 13) (by kernel_rfl) rfl (fun K hK => ?_)
                        go_simp
                        refine hK.out _ _ (fun h => absurd rfl h) (fun _ => ?_)
                        clear hK K
                        try simp only [Act.put, List.setIfInBounds_toArray, List.set_cons_zero, List.set_cons_succ]
                        refine Ord.done (by kernel_rfl) ?_ _
                        refine NoOut.normal ?_
                        have hne : g4 ≠ W.heap.size := by omega
                        have hfin8 := (hT4w.on h5').set hlt hub
                        rw [← HPJ.out] at hfin8
                        have hfin4 := ((((HT2.out.2.1.on (Below.refl _ _).drew).on h3).on h4).on h5').other (hT4w.on h5') hne i (.pointer q)
                        have hfinB := ((((HT2.out.2.2.trs (Below.refl _ _).drew).trs h3).trs h4).trs h5').setCell (p := ⟨W.heap.size, i, none⟩) (Nat.le_refl _) (.pointer q)
                        generalize w5'.setCell ⟨W.heap.size, i, none⟩ (.pointer q) = wz at *
                        have HF := Lib.hid (And.intro hfin8 (And.intro hfin4 hfinB))
                        clear hfin8 hfin4 hfinB c85 c95 f85 hT3 hT4w hS hub hu9 h3 h4 h5' hl8 hl83 hl84 HCH HBF HPJ HT2
                        gi_wp2
                        have HF1 := HF.out.1
                        rw [← HGN.out] at HF1
                        exact ⟨⟨_, _, _, _, _, _, _, _, _, _, _, _, _, _, _, _, _, _, _, _, _, _, _, _, _, _, _, _, _, _, _, _, _, _, _, _, _, _, ⟨i + 1, _, by go_num, by omega, HF1, HF.out.2.1, HF.out.2.2⟩, rfl⟩, by simp [intOf]; omega⟩
                      · obtain rfl : i = 0 := by omega
                        have HD0 : Hid (oneD dnK G2 0 = G2) := Lib.hid (by unfold oneD; rw [if_neg (by omega)])
                        gi_wp2
                        have HF1 := HT2.out.1
                        rw [← HD0.out, ← HGN.out] at HF1
                        exact ⟨⟨_, _, _, _, _, _, _, _, _, _, _, _, _, _, _, _, _, _, _, _, _, _, _, _, _, _, _, _, _, _, _, _, _, _, _, _, _, _, ⟨1, _, by go_num, by omega, HF1, HT2.out.2.1, HT2.out.2.2⟩, rfl⟩, by simp [intOf]⟩
                    · have e1 : IntKind.i64.wrap ((i : Int) + 1) = 5 := by rw [IntWalk.i64_in _ (by omega)]; omega
                      have e2 : wrap64 ((i : Int) + 1) = 5 := by rw [IntWalk.wrap64_in _ (by omega)]; omega
                      have HU0 : Hid (oneU upK G i = G) := Lib.hid (by unfold oneU; rw [if_neg hj])
                      rw [HU0.out] at HGN hLU
                      gi_wp2_with (rw [HVX.out])
                      have h0 : 0 < i := by omega
                      obtain ⟨j, hjd⟩ : ∃ j, j = i - 1 := ⟨_, rfl⟩
                      have hj5 : j < 5 := by omega
                      have hjI : (j : Int) < 5 := by omega
                      have hj0 : (0 : Int) ≤ (j : Int) := by omega
                      have h0I : (0 : Int) < (i : Int) := by omega
                      have e1 : IntKind.i64.wrap ((i : Int) - 1) = (j : Int) := by rw [IntWalk.i64_in _ (by omega)]; omega
                      have e2 : wrap64 ((i : Int) - 1) = (j : Int) := by rw [IntWalk.wrap64_in _ (by omega)]; omega
                      have HCH := Lib.hid (fun W' => change_any i false W')
                      have HBF := Lib.hid (fun W' v h => before_any (chg i false) v (G j) W' (by have := chg_len i false; omega) (fun x hx => by have := hLU j hj5 x hx; omega) h)
                      have HPJ : Hid (oneD dnK (G) i = upd (G) i (better ((G) i) (Proofs.YtkjiancdhaocaaaDoor.pre (chg i false) ((G) j)))) := by
                        refine Lib.hid ?_
                        unfold oneD dnK
                        rw [if_pos h0, hjd]
                      clear hjd
                      gi_wp2
                      have c8 := HT.out.1.box.cell hlt
                      have c9 := HT.out.1.box.cell hj5
                      have f8 := HT.out.1.box.frozen i
                      refine round_region_ord (fun w' => w'.cell? ⟨W.heap.size, i, none⟩ = some (v8 i) ∧ w'.cell? ⟨W.heap.size, j, none⟩ = some (v8 j)) 13 (by kernel_rfl) (by kernel_rfl) ?_
                      have hS := And.intro c8 c9
                      refine Ord.take (i := 0) (v := .int .i64 i) rfl (by kernel_rfl) (by kernel_rfl) (by kernel_rfl) (by kernel_rfl) (fun _ _ _ h => h) (Or.inl ⟨by rfl, fun w hSw => ?_⟩) hS ?_
                      · obtain ⟨hs1, hs2⟩ := hSw; clear hS c8 c9 f8; go_simp
                      try simp only [Act.put, List.setIfInBounds_toArray, List.set_cons_zero, List.set_cons_succ]
                      refine Ord.take (i := 1) (v := .int .i64 i) rfl (by kernel_rfl) (by kernel_rfl) (by kernel_rfl) (by kernel_rfl) (fun _ _ _ h => h) (Or.inl ⟨by rfl, fun w hSw => ?_⟩) hS ?_
                      · obtain ⟨hs1, hs2⟩ := hSw; clear hS c8 c9 f8; go_simp
                      try simp only [Act.put, List.setIfInBounds_toArray, List.set_cons_zero, List.set_cons_succ]
                      refine Ord.take (i := 2) (v := .pointer (some ⟨W.heap.size, i, none⟩)) rfl (by kernel_rfl) (by kernel_rfl) (by kernel_rfl) (by kernel_rfl) (fun _ _ _ h => h) (Or.inl ⟨by rfl, fun w hSw => ?_⟩) hS ?_
                      · obtain ⟨hs1, hs2⟩ := hSw; clear hS c8 c9 f8; go_simp
                      try simp only [Act.put, List.setIfInBounds_toArray, List.set_cons_zero, List.set_cons_succ]
                      refine Ord.take (i := 3) (v := v8 i) rfl (by kernel_rfl) (by kernel_rfl) (by kernel_rfl) (by kernel_rfl) (fun _ _ _ h => h) (Or.inl ⟨by rfl, fun w hSw => ?_⟩) hS ?_
                      · obtain ⟨hs1, hs2⟩ := hSw; clear hS c8 c9 f8; go_simp
                      try simp only [Act.put, List.setIfInBounds_toArray, List.set_cons_zero, List.set_cons_succ]
                      refine Ord.take (i := 4) (v := .int .i64 (wid i : Nat)) rfl (by kernel_rfl) (by kernel_rfl) (by kernel_rfl) (by kernel_rfl) (fun _ _ _ h => h) (Or.inl ⟨by rfl, fun w hSw => ?_⟩) hS ?_
                      · obtain ⟨hs1, hs2⟩ := hSw; clear hS c8 c9 f8; go_simp
                      try simp only [Act.put, List.setIfInBounds_toArray, List.set_cons_zero, List.set_cons_succ]
                      refine Ord.take (i := 6) (v := .int .i64 i) rfl (by kernel_rfl) (by kernel_rfl) (by kernel_rfl) (by kernel_rfl) (fun _ _ _ h => h) (Or.inl ⟨by rfl, fun w hSw => ?_⟩) hS ?_
                      · obtain ⟨hs1, hs2⟩ := hSw; clear hS c8 c9 f8; go_simp
                      try simp only [Act.put, List.setIfInBounds_toArray, List.set_cons_zero, List.set_cons_succ]
                      refine Ord.take (i := 7) (v := .int .i64 (j : Nat)) rfl (by kernel_rfl) (by kernel_rfl) (by kernel_rfl) (by kernel_rfl) (fun _ _ _ h => h) (Or.inl ⟨by rfl, fun w hSw => ?_⟩) hS ?_
                      · obtain ⟨hs1, hs2⟩ := hSw; clear hS c8 c9 f8; go_simp
                      try simp only [Act.put, List.setIfInBounds_toArray, List.set_cons_zero, List.set_cons_succ]
                      refine Ord.take (i := 8) (v := .pointer (some ⟨W.heap.size, j, none⟩)) rfl (by kernel_rfl) (by kernel_rfl) (by kernel_rfl) (by kernel_rfl) (fun _ _ _ h => h) (Or.inl ⟨by rfl, fun w hSw => ?_⟩) hS ?_
                      · obtain ⟨hs1, hs2⟩ := hSw; clear hS c8 c9 f8; go_simp
                      try simp only [Act.put, List.setIfInBounds_toArray, List.set_cons_zero, List.set_cons_succ]
                      refine Ord.take (i := 9) (v := v8 j) rfl (by kernel_rfl) (by kernel_rfl) (by kernel_rfl) (by kernel_rfl) (fun _ _ _ h => h) (Or.inl ⟨by rfl, fun w hSw => ?_⟩) hS ?_
                      · obtain ⟨hs1, hs2⟩ := hSw; clear hS c8 c9 f8; go_simp
                      try simp only [Act.put, List.setIfInBounds_toArray, List.set_cons_zero, List.set_cons_succ]
                      refine Ord.one (i := 5) (by kernel_rfl) rfl (fun K hK => ?_)
                      go_simp
                      refine Calls.mono (HCH.out _) ?_
                      rintro e w3 ⟨rfl, h3⟩
                      try dsimp only
                      have hl8 := HT.out.1.box.lt
                      have c83 := (h3.cell (p := ⟨W.heap.size, i, none⟩) hl8).trans hS.1
                      have c93 := (h3.cell (p := ⟨W.heap.size, j, none⟩) hl8).trans hS.2
                      have f83 := (h3.frozen (p := ⟨W.heap.size, i, none⟩) hl8).trans f8
                      refine hK.out _ _ (fun _ => ⟨c83, c93⟩) (fun _ => ?_)
                      clear hK K hS c8 c9 f8
                      try simp only [Act.put, List.setIfInBounds_toArray, List.set_cons_zero, List.set_cons_succ]
                      refine Ord.one (i := 10) (by kernel_rfl) rfl (fun K hK => ?_)
                      go_simp
                      have hT3 := (HT.out.1.on (Below.refl _ _).drew).on h3
                      refine Calls.mono (HBF.out _ _ (hT3.txt j hj5)) ?_
                      rintro e w4 ⟨u9, rfl, hu9, h4⟩
                      try dsimp only
                      have hl83 : W.heap.size < w3.heap.size := hT3.box.lt
                      have c84 := (h4.cell (p := ⟨W.heap.size, i, none⟩) hl83).trans c83
                      have c94 := (h4.cell (p := ⟨W.heap.size, j, none⟩) hl83).trans c93
                      have f84 := (h4.frozen (p := ⟨W.heap.size, i, none⟩) hl83).trans f83
                      refine hK.out _ _ (fun _ => ⟨c84, c94⟩) (fun _ => ?_)
                      clear hK K c83 c93 f83
                      try simp only [Act.put, List.setIfInBounds_toArray, List.set_cons_zero, List.set_cons_succ]
                      refine Ord.one (i := 11) (by kernel_rfl) rfl (fun K hK => ?_)
                      go_simp
                      have hT4w := hT3.on h4
                      refine Calls.mono (better_any _ _ _ _ _ (hT4w.txt i hlt) hu9) ?_
                      rintro e w5' ⟨ub, rfl, -, hub, h5'⟩
                      try dsimp only
                      have hl84 : W.heap.size < w4.heap.size := hT4w.box.lt
                      have c85 := (h5'.cell (p := ⟨W.heap.size, i, none⟩) hl84).trans c84
                      have c95 := (h5'.cell (p := ⟨W.heap.size, j, none⟩) hl84).trans c94
                      have f85 := (h5'.frozen (p := ⟨W.heap.size, i, none⟩) hl84).trans f84
                      refine hK.out _ _ (fun _ => ⟨c85, c95⟩) (fun _ => ?_)
                      have hS := And.intro c85 c95
                      clear hK K c84 c94 f84
                      try simp only [Act.put, List.setIfInBounds_toArray, List.set_cons_zero, List.set_cons_succ]
                      refine Ord.take (i := 12) (v := .pointer (some ⟨W.heap.size, i, none⟩)) rfl (by kernel_rfl) (by kernel_rfl) (by kernel_rfl) (by kernel_rfl) (fun _ _ _ h => h) (Or.inl ⟨by rfl, fun w hSw => ?_⟩) hS ?_
                      · clear hSw; clear hS c85 c95 f85; go_simp
                      try simp only [Act.put, List.setIfInBounds_toArray, List.set_cons_zero, List.set_cons_succ]
                      obtain ⟨q, rfl⟩ := hub.ptr
                      refine Ord.one (i := 13) (by kernel_rfl) rfl (fun K hK => ?_)
                      go_simp
                      refine hK.out _ _ (fun h => absurd rfl h) (fun _ => ?_)
                      clear hK K
                      try simp only [Act.put, List.setIfInBounds_toArray, List.set_cons_zero, List.set_cons_succ]
                      refine Ord.done (by kernel_rfl) ?_ _
                      refine NoOut.normal ?_
                      have hne : g4 ≠ W.heap.size := by omega
                      have hfin8 := (hT4w.on h5').set hlt hub
                      rw [← HPJ.out] at hfin8
                      have hfin4 := ((((HT.out.2.1.on (Below.refl _ _).drew).on h3).on h4).on h5').other (hT4w.on h5') hne i (.pointer q)
                      have hfinB := ((((HT.out.2.2.trs (Below.refl _ _).drew).trs h3).trs h4).trs h5').setCell (p := ⟨W.heap.size, i, none⟩) (Nat.le_refl _) (.pointer q)
                      generalize w5'.setCell ⟨W.heap.size, i, none⟩ (.pointer q) = wz at *
                      have HF := Lib.hid (And.intro hfin8 (And.intro hfin4 hfinB))
                      clear hfin8 hfin4 hfinB c85 c95 f85 hT3 hT4w hS hub hu9 h3 h4 h5' hl8 hl83 hl84 HCH HBF HPJ HT
                      gi_wp2
                      have HF1 := HF.out.1
                      rw [← HGN.out] at HF1
                      exact ⟨⟨_, _, _, _, _, _, _, _, _, _, _, _, _, _, _, _, _, _, _, _, _, _, _, _, _, _, _, _, _, _, _, _, _, _, _, _, _, _, ⟨i + 1, _, by go_num, by omega, HF1, HF.out.2.1, HF.out.2.2⟩, rfl⟩, by simp [intOf]; omega⟩
                  · obtain rfl : i = 5 := by omega
                    have HT := Lib.hid (And.intro hT8 (And.intro hT4 hBi))
                    clear hT8 hT4 hBi d0 d1 d2 d3 d4
                    gi_wp2
                    exact ⟨⟨r + 1, v8, by go_num, by omega, HT.out.1, HT.out.2.1, HT.out.2.2⟩, by simp [intOf]; omega⟩
              · obtain rfl : r = 5 := by omega
                have c0 := hT8.box.cell (i := 0) (by omega)
                have c1 := hT8.box.cell (i := 1) (by omega)
                have c2 := hT8.box.cell (i := 2) (by omega)
                have c3 := hT8.box.cell (i := 3) (by omega)
                have c4 := hT8.box.cell (i := 4) (by omega)
                have b0 := hT4.box.cell (i := 0) (by omega)
                have b1 := hT4.box.cell (i := 1) (by omega)
                have b2 := hT4.box.cell (i := 2) (by omega)
                have b3 := hT4.box.cell (i := 3) (by omega)
                have b4 := hT4.box.cell (i := 4) (by omega)
                have k0 := hT4.box.frozen 0
                have k1 := hT4.box.frozen 1
                have k2 := hT4.box.frozen 2
                have k3 := hT4.box.frozen 3
                have k4 := hT4.box.frozen 4
                obtain ⟨q0, e0⟩ := (hT8.txt 0 (by omega)).ptr
                obtain ⟨q1, e1⟩ := (hT8.txt 1 (by omega)).ptr
                obtain ⟨q2, e2⟩ := (hT8.txt 2 (by omega)).ptr
                obtain ⟨q3, e3⟩ := (hT8.txt 3 (by omega)).ptr
                obtain ⟨q4, e4⟩ := (hT8.txt 4 (by omega)).ptr
                rw [e0] at c0
                rw [e1] at c1
                rw [e2] at c2
                rw [e3] at c3
                rw [e4] at c4
                have HT := Lib.hid (And.intro hT8 (And.intro hT4 hBi))
                have HE := Lib.hid (And.intro e0 (And.intro e1 (And.intro e2 (And.intro e3 e4))))
                clear hT8 hT4 hBi e0 e1 e2 e3 e4
                gi_wp2
                obtain ⟨v', hmv⟩ := HT.out.1.move HT.out.2.1 (by omega) HE.out.1 HE.out.2.1 HE.out.2.2.1 HE.out.2.2.2.1 HE.out.2.2.2.2
                have hBW := HWRK.out.2.2.2
                have hsz := hBW.size
                refine ⟨(((((keepsOthers_of_below HT.out.2.2).trans (KeepsOthers.setCell _ _ _)).trans (KeepsOthers.setCell _ _ _)).trans (KeepsOthers.setCell _ _ _)).trans (KeepsOthers.setCell _ _ _)).trans (KeepsOthers.setCell _ _ _), ⟨by simpa using HT.out.2.2.size, fun g hg o => ?_⟩, v', by rw [HGE.out]; exact hmv, HLN.out, by simp; omega, ?_⟩
                · simp at hg
                  have hgn : g4 ≠ g := by rcases hg with rfl | rfl <;> omega
                  have hgl : g < W.heap.size := by rcases hg with rfl | rfl <;> omega
                  have hO : ∀ (X : World) (i : Nat) (u : Value), (X.setCell ⟨g4, i, none⟩ u).cell? ⟨g, o, none⟩ = X.cell? ⟨g, o, none⟩ := fun X i u => World.cell?_setCell_other _ _ _ _ (by intro e; injection e with e1; exact hgn e1)
                  rw [hO, hO, hO, hO, hO]
                  exact HT.out.2.2.cell (p := ⟨g, o, none⟩) hgl
                · exact (((((hBW.trans (HT.out.2.2.mono (by omega))).setCell (p := ⟨g4, 0, none⟩) (Nat.le_refl _) _).setCell (p := ⟨g4, 1, none⟩) (Nat.le_refl _) _).setCell (p := ⟨g4, 2, none⟩) (Nat.le_refl _) _).setCell (p := ⟨g4, 3, none⟩) (Nat.le_refl _) _).setCell (p := ⟨g4, 4, none⟩) (Nat.le_refl _) _
      case done =>
        rintro D ys W hD hys ⟨v', hT, -, -, hB⟩ hK
        rw [hys, HFA.out] at hT
        obtain ⟨x, hx⟩ := HSM.out
        have ht := hT.txt 2 (by omega)
        rw [hx] at ht
        obtain ⟨b, hb, hl, hc⟩ := ht
        have c2 := hT.box.cell (i := 2) (by omega)
        rw [hb] at c2
        have HBW := Lib.hid hB
        have HXX := Lib.hid hx
        clear hT hB hys hb hx
        go_wp2
        refine ⟨by simp, .inl ⟨_, _, rfl, run_takeDeferred hK, ?_⟩⟩
        have hD2 := belowK_b (w := w6) (Nat.le_refl _) W D _ (.deferred none) hD hK rfl rfl
        refine ⟨.string ⟨x.toArray⟩, by simp [results, Tryd.results21, go_sem], by rw [HXX.out]; rfl, ?_⟩
        exact (HX4.out.2.1.trans (((HW6.out.2.trans HBW.out).mono (by omega)))).trans (hD2.mono (by omega))
      case stop =>
        rintro D c pre W _ _ h _
        exact h.elim
end Go.Proofs.YtkjiancdhaocaaaDoor
