/- Walks over package alert: when each task is done. -/
import Derived.Test.YtdafiblnanpiiaaLibRep
import Derived.Test.YtdafiblnanpiiaaLibBk
import Derived.Test.YtdafiblnanpiiaaAlRD
namespace Go.Proofs.Ytdafiblnanpiiaa
open Go.RowKit Go.Shelf
set_option linter.unusedSimpArgs false
set_option linter.unusedVariables false
attribute [local go_sem] Oper.semAt_some

theorem asked_no {A : Option Addr} {c : Nat} {L : List (Int × Int × Int)} {A2 : Option Addr} {c2 : Nat} {p : List Int} {w : World} (hr : RdT w w.heap.size A L) (hl : L.length ≤ 1000000) (hr2 : RdI w w.heap.size A2 p) (hl2 : p.length ≤ 1000000) (h0 : AskE L p ≠ 0) :
    Calls Try.prog 75 #[.slice A L.length c, .slice A2 p.length c2] w fun e w' => e = .returned (.tuple #[.agg Try.zeroCells69, .int .i64 (AskE L p)]) ∧ Below w.heap.size w w' :=
  (asked_any A c L A2 c2 p w hr hl hr2 hl2).mono fun e w' ⟨h1, h2⟩ => by
    rcases h2 with ⟨ha, _⟩ | ⟨_, he⟩
    · exact absurd ha h0
    · exact ⟨he, h1⟩
theorem asked_yes {A : Option Addr} {c : Nat} {L : List (Int × Int × Int)} {A2 : Option Addr} {c2 : Nat} {p : List Int} {w : World} (hr : RdT w w.heap.size A L) (hl : L.length ≤ 1000000) (hr2 : RdI w w.heap.size A2 p) (hl2 : p.length ≤ 1000000) (h0 : AskE L p = 0) :
    Calls Try.prog 75 #[.slice A L.length c, .slice A2 p.length c2] w fun e w' => e = .returned (.tuple #[.agg (p.map (Value.int .i64)).toArray, .int .i64 0]) ∧ Below w.heap.size w w' :=
  (asked_any A c L A2 c2 p w hr hl hr2 hl2).mono fun e w' ⟨h1, h2⟩ => by
    rcases h2 with ⟨_, _, _, he⟩ | ⟨ha, _⟩
    · exact ⟨he, h1⟩
    · exact absurd h0 ha
theorem work_no {A : Option Addr} {c : Nat} {L : List (Int × Int × Int)} {p : List Int} {w : World} (hr : RdT w w.heap.size A L) (hok : okT L) (hp : plnB L.length p = true) (hb : rightB L p = false) :
    Calls Try.prog 76 #[.agg (p.map (Value.int .i64)).toArray, .slice A L.length c] w fun e w' => e = .returned (.tuple #[.slice none 0 0, .bool false]) ∧ Below w.heap.size w w' :=
  (work_any A c L p w hr hok hp).mono fun e w' ⟨h1, v, he, h2⟩ => by
    rcases h2 with ⟨h, _⟩ | ⟨_, rfl⟩
    · rw [hb] at h; cases h
    · exact ⟨he, h1⟩
theorem work_yes {A : Option Addr} {c : Nat} {L : List (Int × Int × Int)} {p : List Int} {w : World} (hr : RdT w w.heap.size A L) (hok : okT L) (hp : plnB L.length p = true) (hb : rightB L p = true) :
    Calls Try.prog 76 #[.agg (p.map (Value.int .i64)).toArray, .slice A L.length c] w fun e w' => ∃ B c', e = .returned (.tuple #[.slice B L.length c', .bool true]) ∧ Below w.heap.size w w' ∧ RdI w' w'.heap.size B (cntsT L.length p) :=
  (work_any A c L p w hr hok hp).mono fun e w' ⟨h1, v, he, h2⟩ => by
    rcases h2 with ⟨_, B, c', rfl, h3⟩ | ⟨h, _⟩
    · exact ⟨B, c', he, h1, h3⟩
    · rw [hb] at h; cases h

set_option maxRecDepth 100000 in
set_option maxHeartbeats 8000000 in
theorem Done_no1 (A : Option Addr) (c : Nat) (L : List (Int × Int × Int)) (A2 : Option Addr) (c2 : Nat) (p : List Int) (w : World) (hr : RdT w w.heap.size A L) (hl : L.length ≤ 1000000) (hr2 : RdI w w.heap.size A2 p) (hl2 : p.length ≤ 1000000) (h0 : AskE L p ≠ 0) :
    Calls Try.prog 51 #[.slice A L.length c, .slice A2 p.length c2] w (OutI (DonE L p) (DonK L p) w) := by
  have hB0 := below_alloc w (.cells #[.slice A L.length c] 22)
  have hcell := cell_one w (.slice A L.length c) 22
  have HA := Lib.hid (asked_no (c := c) (c2 := c2) (hr.on hB0) hl (hr2.on hB0) hl2 h0)
  have hE : DonE L p = AskE L p := by unfold DonE; rw [if_neg h0]
  have HB0 := Lib.hid hB0
  have H1 := Lib.hid (fun W (hW : Below w.heap.size w W) => DonO_no hE h0 hW)
  generalize OutI (DonE L p) (DonK L p) w = Q at *
  have hd : (AskE L p == 0) = false := by rw [beq_eq_false_iff_ne]; exact h0
  have hd2 : (AskE L p != 0) = true := by rw [bne_iff_ne]; exact h0
  have HU69 := Lib.hid Try.underlying69
  have hzs := zeroCells_size
  have hza := zeroCells_all
  clear hr hr2 h0 hE hB0
  generalize AskE L p = E at *
  generalize L.length = n at *
  generalize p.length = m at *
  go_enter Try.func51, Try.ntmps51
  go_wp2_with (first
    | (go_at_call 75; refine HA.out.mono ?_; rintro e w1 ⟨rfl, h1⟩)
    | (refine wpList_store_mid rfl 69 (.tmp 6) (.tmp 17) rfl w1.heap.size 0 Try.zeroCells69 rfl rfl (box_there (Box.new w1 _ _) zeroCells_size) (by rw [infoPlan, zeroCells_size]) zeroCells_all ?_; obtain ⟨HB2, HS2⟩ := stored_plan w1 Try.zeroCells69 zeroCells_size; generalize World.setCells _ w1.heap.size 0 (Try.zeroCells69).toList = W2 at *))
  exact H1.out _ ((HB0.out.trs h1).trs HS2.out)

set_option maxRecDepth 100000 in
set_option maxHeartbeats 8000000 in
theorem Done_no2 (A : Option Addr) (c : Nat) (L : List (Int × Int × Int)) (A2 : Option Addr) (c2 : Nat) (p : List Int) (w : World) (hr : RdT w w.heap.size A L) (hl : L.length ≤ 1000000) (hr2 : RdI w w.heap.size A2 p) (hl2 : p.length ≤ 1000000) (h0 : AskE L p = 0) (hb : rightB L p = false) :
    Calls Try.prog 51 #[.slice A L.length c, .slice A2 p.length c2] w (OutI (DonE L p) (DonK L p) w) := by
  obtain ⟨hv, hp⟩ := AskE_zero h0
  have hB0 := below_alloc w (.cells #[.slice A L.length c] 22)
  have hcell := cell_one w (.slice A L.length c) 22
  have HA := Lib.hid (asked_yes (c := c) (c2 := c2) (hr.on hB0) hl (hr2.on hB0) hl2 h0)
  have HW := Lib.hid (fun W (hW : Below w.heap.size w W) => work_no (c := c) (hr.on hW) (okT_of hv) hp hb)
  have hE : DonE L p = 2 := by unfold DonE; rw [if_pos h0, hb]; rfl
  have HB0 := Lib.hid hB0
  have HC0 := Lib.hid (fun W (hW : Below (w.alloc (.cells #[.slice A L.length c] 22)).heap.size (w.alloc (.cells #[.slice A L.length c] 22)) W) => (hW.cell (p := ⟨w.heap.size, 0, none⟩) (by simp)).trans hcell)
  have H1 := Lib.hid (fun W (hW : Below w.heap.size w W) => DonO_no hE (by decide) hW)
  generalize OutI (DonE L p) (DonK L p) w = Q at *
  have HU69 := Lib.hid Try.underlying69
  have hlen := (plnB_iff.1 hp).1
  have hps : ((p.map (Value.int .i64)).toArray).size = 100 ∧ ((p.map (Value.int .i64)).toArray).all (·.oneCell') = true := ⟨by simp [hlen], by simp [Value.oneCell']⟩
  have HPS := Lib.hid hps
  clear hr hr2 h0 hE hB0 hv hp hb hps hlen hcell
  generalize (p.map (Value.int .i64)).toArray = V at *
  generalize hn : L.length = n at *
  generalize p.length = m at *
  go_enter Try.func51, Try.ntmps51
  go_wp2_with (first
    | (go_at_call 75; refine HA.out.mono ?_; rintro e w1 ⟨rfl, h1⟩; have hcc := HC0.out _ h1)
    | (refine wpList_store_mid rfl 69 (.tmp 6) (.tmp 17) rfl w1.heap.size 0 V rfl rfl (by rw [HPS.out.1]; exact box_there (Box.new w1 _ _) zeroCells_size) (by rw [infoPlan, HPS.out.1]) HPS.out.2 ?_; obtain ⟨HB2, HS2⟩ := stored_plan w1 V HPS.out.1; generalize World.setCells _ w1.heap.size 0 V.toList = W2 at *; have hc2 := HC0.out _ (h1.trs HS2.out))
    | (refine wpList_load_row rfl 69 (.tmp 6) rfl w1.heap.size rfl 69 V (0, 0) _ HB2.out HU69.out rfl (by rw [infoPlan, HPS.out.1]) ?_)
    | (go_at_call 76; refine (HW.out _ ((HB0.out.trs h1).trs HS2.out)).mono ?_; rintro e w2 ⟨rfl, h2⟩))
  exact H1.out _ ((((HB0.out.trs h1).trs HS2.out).trs h2).trs (below_alloc _ _))

/-- one minute, gone over from the last one back -/
def stepD (L : List (Int × Int × Int)) (p : List Int) (out : List Int) (m : Nat) : List Int :=
  if ix p m ≠ -1 ∧ ix out (ix p m).toNat < 0 ∧ cntI p (ix p m).toNat = tc L (ix p m).toNat then out.set (ix p m).toNat ((m : Int) + 1) else out
def foldD (L : List (Int × Int × Int)) (p : List Int) (pre : List Nat) : List Int := pre.foldl (stepD L p) (List.replicate L.length (-1))
theorem stepD_len (L : List (Int × Int × Int)) (p out : List Int) (m : Nat) : (stepD L p out m).length = out.length := by unfold stepD; split <;> simp
theorem foldD_snoc (L : List (Int × Int × Int)) (p : List Int) (pre : List Nat) (m : Nat) : foldD L p (pre ++ [m]) = stepD L p (foldD L p pre) m := by simp [foldD]
theorem foldD_len (L : List (Int × Int × Int)) (p : List Int) (pre : List Nat) : (foldD L p pre).length = L.length := by
  obtain ⟨r, rfl⟩ : ∃ r, pre = r.reverse := ⟨pre.reverse, by simp⟩
  induction r with
  | nil => simp [foldD]
  | cons m r ih => rw [List.reverse_cons, foldD_snoc, stepD_len, ih]
theorem stepD_donesB {L : List (Int × Int × Int)} {p : List Int} (hp : plnB L.length p = true) {m : Nat} (hm : m < 100) : stepD L p (donesB L p (m + 1)) m = donesB L p m := by
  have hb := (plnB_iff.1 hp).2 m hm
  unfold stepD
  by_cases h1 : ix p m = -1
  · rw [if_neg (by intro h; exact h.1 h1)]
    exact (donesB_same hm (fun i hi h => by omega)).symm
  · obtain ⟨k, hk⟩ : ∃ k : Nat, ix p m = k := ⟨(ix p m).toNat, by omega⟩
    have hkn : k < L.length := by omega
    rw [hk, Int.toNat_natCast, donesB_ix L p (m + 1) k hkn]
    by_cases h2 : doneB L p k (m + 1) < 0 ∧ cntI p k = tc L k
    · rw [if_pos ⟨by omega, h2.1, h2.2⟩, donesB_hit hm hkn hk h2.2 h2.1]
    · rw [if_neg (fun h => h2 ⟨h.2.1, h.2.2⟩)]
      refine (donesB_same hm (fun i hi h => ?_)).symm
      have : i = k := by omega
      subst this
      exact h2 ⟨h.2.2, h.2.1⟩
theorem foldD_dnl {L : List (Int × Int × Int)} {p : List Int} (hp : plnB L.length p = true) (d : Nat) (hd : d ≤ 100) : foldD L p (dnl 100 d) = donesB L p (100 - d) := by
  induction d with
  | zero => rw [dnl, Nat.sub_zero, donesB_start]; rfl
  | succ d ih =>
    rw [dnl, foldD_snoc, ih (by omega), show 100 - d = (100 - 1 - d) + 1 by omega, stepD_donesB hp (by omega), show 100 - (d + 1) = 100 - 1 - d by omega]
theorem foldD_all {L : List (Int × Int × Int)} {p : List Int} (hp : plnB L.length p = true) : foldD L p (dnl 100 100) = donesT L p := by rw [foldD_dnl hp 100 (Nat.le_refl _), donesB_end]

theorem BoxI.own {g : Nat} {l : List Int} {W W' : World} {row : Option Nat} (h : BoxI W g l) (hg : W.grownBy W' row) (hr : ∀ r, row = some r → ∃ o : Obj, W.heap[r]? = some o ∧ o.isCells = false) : BoxI W' g l := by
  refine (World.grownBy.block hg g h.lt (fun e => ?_)).trans h
  obtain ⟨o, h1, h2⟩ := hr g (by first | exact e | exact e.symm)
  have h3 : W.heap[g]? = some (.cells (l.map (Value.int .i64)).toArray 3 (0, 0)) := h
  rw [h3] at h1
  injection h1 with h1
  rw [← h1] at h2
  cases h2

theorem DonO_rd {L : List (Int × Int × Int)} {p : List Int} {w W : World} {A : Option Addr} (h : DonE L p = 0) (hW : Below w.heap.size w W) (ho : RdI W W.heap.size A (donesT L p)) (c : Nat) : OutI (DonE L p) (DonK L p) w (.returned (.tuple #[.slice A L.length c, .int .i64 0])) W :=
  ⟨hW, A, c, by unfold DonK; rw [h, if_pos rfl]; simp [donesT], by unfold DonK; rw [h, if_pos rfl]; exact ho⟩
/-- what a round reads: the slices of the call, its own slices, the plan, and what the rounds have written so far -/
structure DnR (A B : Option Addr) (n c c' : Nat) (z0 g8 g g10 : Nat) (W5 : World) (out : List Int) (W : World) : Prop where
  out_ : BoxI W g out
  own : W.cell? ⟨g10, 0, none⟩ = some (.slice (some ⟨g, 0, none⟩) n n)
  old : Below g W5 W
theorem DnR.from {A B : Option Addr} {n c c' : Nat} {z0 g8 g g10 : Nat} {W5 : World} {fd : List Nat → List Int} {α : Type} {f : List α → List Nat} (D : Nat) (hD : g ≤ D) (h5 : g ≤ W5.heap.size) : OwnFrom D (fun pre W => DnR A B n c c' z0 g8 g g10 W5 (fd (f pre)) W) := fun s W W' row h hg hr => by
  have hr2 : ∀ r, row = some r → ∃ o : Obj, W.heap[r]? = some o ∧ o.isCells = false := fun r e => (hr r e).2
  exact ⟨BoxI.own h.out_ hg hr2, cell_kept h.own hg hr2, ownFrom_below (β := Unit) h5 hD () _ _ row h.old hg hr⟩

set_option maxRecDepth 100000 in
set_option maxHeartbeats 8000000 in
theorem Done_yes (A : Option Addr) (c : Nat) (L : List (Int × Int × Int)) (A2 : Option Addr) (c2 : Nat) (p : List Int) (w : World) (hr : RdT w w.heap.size A L) (hl : L.length ≤ 1000000) (hr2 : RdI w w.heap.size A2 p) (hl2 : p.length ≤ 1000000) (h0 : AskE L p = 0) (hb : rightB L p = true) :
    Calls Try.prog 51 #[.slice A L.length c, .slice A2 p.length c2] w (OutI (DonE L p) (DonK L p) w) := by
  obtain ⟨hv, hp⟩ := AskE_zero h0
  have hok := okT_of hv
  have hn12 := hok.1.2
  have hn1 := hok.1.1
  have hB0 := below_alloc w (.cells #[.slice A L.length c] 22)
  have hcell := cell_one w (.slice A L.length c) 22
  have HA := Lib.hid (asked_yes (c := c) (c2 := c2) (hr.on hB0) hl (hr2.on hB0) hl2 h0)
  have HW := Lib.hid (fun W (hW : Below w.heap.size w W) => work_yes (c := c) (hr.on hW) hok hp hb)
  have hE : DonE L p = 0 := by unfold DonE; rw [if_pos h0, hb]; rfl
  have HB0 := Lib.hid hB0
  have HR := Lib.hid hr
  have HC0 := Lib.hid (fun W (hW : Below (w.alloc (.cells #[.slice A L.length c] 22)).heap.size (w.alloc (.cells #[.slice A L.length c] 22)) W) => (hW.cell (p := ⟨w.heap.size, 0, none⟩) (by simp)).trans hcell)
  have H1 := Lib.hid (fun W A c (hW : Below w.heap.size w W) (ho : RdI W W.heap.size A (donesT L p)) => DonO_rd hE hW ho c)
  generalize OutI (DonE L p) (DonK L p) w = Q at *
  have HU69 := Lib.hid Try.underlying69
  have hlen := (plnB_iff.1 hp).1
  have HPB := Lib.hid (plnB_iff.1 hp).2
  have hps : ((p.map (Value.int .i64)).toArray).size = 100 ∧ ((p.map (Value.int .i64)).toArray).all (·.oneCell') = true := ⟨by simp [hlen], by simp [Value.oneCell']⟩
  have HPS := Lib.hid hps
  have HPI : Hid (∀ W g, Box W g 69 (p.map (Value.int .i64)).toArray → RdI W W.heap.size (some ⟨g, 0, none⟩) p) := Lib.hid (fun W g h => .inr ⟨g, 0, rfl, h.lt, fun k hk => by rw [Nat.zero_add, h.cell]; simp [ix, hk]⟩)
  have HFA := Lib.hid (foldD_all hp)
  have HFS := Lib.hid (foldD_snoc L p)
  have HFL := Lib.hid (foldD_len L p)
  have HF0 : Hid (foldD L p [] = List.replicate L.length (-1)) := Lib.hid rfl
  have HST : Hid (∀ out m, stepD L p out m = if ix p m ≠ -1 ∧ ix out (ix p m).toNat < 0 ∧ cntI p (ix p m).toNat = tc L (ix p m).toNat then out.set (ix p m).toNat ((m : Int) + 1) else out) := Lib.hid (fun _ _ => rfl)
  have HPL := Lib.hid hlen
  rw [hlen] at HA ⊢
  clear hr hr2 h0 hE hB0 hv hp hb hps hlen hcell hok
  generalize (p.map (Value.int .i64)).toArray = V at *
  generalize foldD L p = fd at *
  generalize stepD L p = st at *
  generalize donesT L p = dt at *
  generalize hn : L.length = n at *
  have HN := Lib.hid hn; clear hn
  have hn1000 : n ≤ 1000 := by omega
  refine (callsIn_wide (n := 4)).1 ?_
  refine callsIn_of_wp_marks Try.func51 rfl trivial ?_ rfl
  refine wpIn_wide.2 ?_
  simp only [Try.ntmps51, List.size_toArray, List.length_cons, List.length_nil, Nat.reduceAdd, Nat.reduceSub, Array.replicate_succ, Array.replicate_zero, List.push_toArray, List.append_toArray, List.nil_append, List.cons_append]
  go_wp2_with (first
    | (go_at_call 75; refine HA.out.mono ?_; rintro e w1 ⟨rfl, h1⟩; have hcc := HC0.out _ h1)
    | (refine wpList_store_mid rfl 69 (.tmp 6) (.tmp 17) rfl w1.heap.size 0 V rfl rfl (by rw [HPS.out.1]; exact box_there (Box.new w1 _ _) zeroCells_size) (by rw [infoPlan, HPS.out.1]) HPS.out.2 ?_; obtain ⟨HB2, HS2⟩ := stored_plan w1 V HPS.out.1; generalize World.setCells _ w1.heap.size 0 V.toList = W2 at *; have hc2 := HC0.out _ (h1.trs HS2.out))
    | (refine wpList_load_row rfl 69 (.tmp 6) rfl w1.heap.size rfl 69 V (0, 0) _ HB2.out HU69.out rfl (by rw [infoPlan, HPS.out.1]) ?_)
    | (go_at_call 76; refine (HW.out _ ((HB0.out.trs h1).trs HS2.out)).mono ?_; rintro e w2 ⟨B, c', rfl, h2, hr3⟩; have HR3 := Lib.hid hr3; have HB3 := Lib.hid ((h1.trs HS2.out).trs h2); have HBP := Lib.hid (HB2.out.on h2); have hc3 := HC0.out _ ((HB3.out.trs (below_alloc w2 (.cells #[.slice B n c'] 32))).trs (below_alloc _ (.cells #[.int .i64 (-1)] 3))); clear hr3)
    | (go_at_call 88; refine (Repeat_any _ _ (-1) n hn1 hn1000 _ (cell_box2 w2 (.slice B n c') (.int .i64 (-1)) 32 3)).mono ?_; rintro e w3 ⟨rfl, hbx3, h3⟩; have HX3 := Lib.hid hbx3; have HB4 := Lib.hid h3; clear hbx3 h3)
    | (go_at_call 89; refine (Backward_any _ _ _ _).mono ?_; rintro e w4 ⟨rfl, hw4⟩; rw [hw4]; clear hw4))
  obtain ⟨W5, hW5⟩ : ∃ W5 : World, W5 = (w3.alloc (.cells #[.slice (some ⟨w2.heap.size + 1 + 1, 0, none⟩) n n] 32)).alloc (.cells #[.slice (some ⟨w1.heap.size, 0, none⟩) 100 100] 32) := ⟨_, rfl⟩
  have hB5 : Below w3.heap.size w3 W5 := by rw [hW5]; exact (below_alloc _ _).trs (below_alloc _ _)
  have hBa : Below w2.heap.size w2 w3 := ((below_alloc w2 (.cells #[.slice B n c'] 32)).trs (below_alloc _ (.cells #[.int .i64 (-1)] 3))).trs HB4.out
  have s1 : w.heap.size < w1.heap.size := by have := h1.size; simp at this; omega
  have s2 : w1.heap.size < w2.heap.size := HBP.out.lt
  have s3 : w2.heap.size + 1 + 1 < w3.heap.size := by have := HX3.out.lt; simpa using this
  have s5 : W5.heap.size = w3.heap.size + 2 := by rw [hW5]; simp
  have hBw2 : Below w.heap.size w w2 := HB0.out.trs HB3.out
  have hBw : Below w.heap.size w W5 := (hBw2.trs hBa).trs hB5
  have k0 : W5.cell? ⟨w.heap.size, 0, none⟩ = some (.slice A n c) := HC0.out _ ((HB3.out.trs hBa).trs hB5)
  have k8 : W5.cell? ⟨w2.heap.size, 0, none⟩ = some (.slice B n c') := by
    rw [hB5.cell (p := ⟨w2.heap.size, 0, none⟩) (by show w2.heap.size < _; omega), HB4.out.cell (p := ⟨w2.heap.size, 0, none⟩) (by simp; omega)]
    exact ((Box.new w2 32 #[.slice B n c']).alloc _).cell 0
  have k10 : W5.cell? ⟨w3.heap.size, 0, none⟩ = some (.slice (some ⟨w2.heap.size + 1 + 1, 0, none⟩) n n) := by
    rw [hW5]; exact ((Box.new w3 32 _).alloc _).cell 0
  have kB : W5.cell? ⟨w3.heap.size + 1, 0, none⟩ = some (.slice (some ⟨w1.heap.size, 0, none⟩) 100 100) := by
    rw [hW5]; exact cell_box2 _ _ _ _ _
  have kP : RdI W5 W5.heap.size (some ⟨w1.heap.size, 0, none⟩) p := ((HPI.out w2 _ HBP.out).on hBa).on hB5
  have kX : BoxI W5 (w2.heap.size + 1 + 1) (List.replicate n (-1)) := by
    have h := HX3.out.on hB5
    simpa using h
  have kRB : RdI W5 w2.heap.size B (cntsT n p) := HR3.out.keep (hBa.trans (hB5.mono (by omega)))
  have HK := Lib.hid (And.intro hBw (And.intro k0 (And.intro k8 (And.intro k10 (And.intro kRB kX)))))
  have hS5 := Back_stops Fence.wide 3 trivial rfl (by omega) (w3.heap.size + 1) w1.heap.size 0 100 p (by rw [HPL.out]; omega) W5 (by omega) (by rw [HPL.out]; exact kB) kP (by omega)
  rw [HPL.out] at hS5
  rw [← hW5]
  clear hB5 hBa hBw2 hBw k0 k8 k10 kB kP kX kRB hW5 hcc hc2 hc3 h1 h2
  refine (wpIn_wide (n := 4)).1 ?_
  refine wpIn_rangeFunc_ownF (n := 4) rfl (by omega) (gf := 99) (lb := #[.pointer (some ⟨w3.heap.size + 1, 0, none⟩)]) rfl trivial (enters_of Try.func99 (by kernel_rfl) rfl)
    hS5 (fun h k => KpC.trans h k) (fun W l o o' hl h h1 h2 => KpC.books (w := W5) (by simp; omega) W l o o' hl h h1 h2) (Below.refl _ _) (fun _ => rfl)
    (fun pre W => DnR A B n c c' w.heap.size w2.heap.size (w2.heap.size + 1 + 1) w3.heap.size W5 (fd (pre.map (fun x => x.1))) W)
    (fun _ _ _ => False)
    (DnR.from (f := fun pre : List (Sub 100) => pre.map (fun x => x.1)) W5.heap.size (by omega) (by omega))
    (fun _ _ _ _ _ hs _ _ => hs)
    ⟨by rw [List.map_nil, HF0.out]; exact HK.out.2.2.2.2.2, HK.out.2.2.2.1, Below.refl _ _⟩
    (fun x => { tmps := #[.slice A n c, .slice A2 100 c2, .pointer (some ⟨w.heap.size, 0, none⟩), undef, .slice none 0 0, .int .i64 0, .pointer (some ⟨w1.heap.size, 0, none⟩), .int .i64 0, .pointer (some ⟨w2.heap.size, 0, none⟩), .bool true, .pointer (some ⟨w3.heap.size, 0, none⟩), .int .i64 x.1, .int .i64 (ix p x.1), .tuple #[.agg V, .int .i64 0], .slice A n c, .slice A2 100 c2, .tuple #[.agg V, .int .i64 0], .agg V, .int .i64 0, .int .i64 0, .bool false, undef, .tuple #[.slice B n c', .bool true], .agg V, .slice A n c, .tuple #[.slice B n c', .bool true], .slice B n c', .bool true, .bool true, .bool false, .slice (some ⟨w2.heap.size + 1, 0, none⟩) 1 1, .slice A n c, .int .i64 n, .slice (some ⟨w2.heap.size + 1 + 1, 0, none⟩) n n, .slice (some ⟨w1.heap.size, 0, none⟩) 100 100, .func (.func 99) #[] #[.pointer (some ⟨w3.heap.size + 1, 0, none⟩)], .int .i64 x.1, .int .i64 (ix p x.1), undef, undef, undef, undef, undef, undef, undef, undef, undef, undef, undef, undef, undef, undef, undef, undef, undef, undef, undef, undef, undef, undef, undef, undef, undef, undef, undef], defers := [] }) ?assign ?body ?done ?stop
  case assign =>
    intro l x W K hK
    gi_wp2
    exact hK
  case body =>
    rintro l pre ⟨m, hm⟩ W ⟨hX, hown, hold⟩ _
    dsimp only
    have hq := HPB.out m hm
    have HFm := Lib.hid (HFS.out (pre.map (fun x => x.1)) m)
    have HSm := Lib.hid (HST.out (fd (pre.map (fun x => x.1))) m)
    have hfl := HFL.out (pre.map (fun x => x.1))
    have HG : Hid (fd ((pre ++ [(⟨m, hm⟩ : Sub 100)]).map (fun x => x.1)) = st (fd (pre.map (fun x => x.1))) m) := Lib.hid (by rw [List.map_append]; exact HFm.out)
    generalize fd (pre.map (fun x => x.1)) = out at *
    generalize ix p m = q at *
    have c0 := (hold.cell (p := ⟨w.heap.size, 0, none⟩) (by show w.heap.size < _; omega)).trans HK.out.2.1
    have c8 := (hold.cell (p := ⟨w2.heap.size, 0, none⟩) (by show w2.heap.size < _; omega)).trans HK.out.2.2.1
    have hmx : Try.prog.follows .mixedOrders = true := by kernel_rfl
    have HX := Lib.hid (DnR.mk (A := A) (B := B) (n := n) (c := c) (c' := c') (z0 := w.heap.size) (g8 := w2.heap.size) (g10 := w3.heap.size) hX hown hold)
    have HKP : Hid (∀ W', Below (w2.heap.size + 1 + 1) W W' → KpC [w3.heap.size + 1, w1.heap.size] W W' → True) := Lib.hid (fun _ _ _ => trivial)
    rcases (show q = -1 ∨ ∃ kb : Nat, q = kb ∧ kb < n by
        by_cases h1 : q < 0
        · exact .inl (by omega)
        · exact .inr ⟨q.toNat, by omega, by omega⟩) with rfl | ⟨kb, hkb, hkn⟩
    · have HS2 : Hid (st out m = out) := Lib.hid (by rw [HSm.out, if_neg (fun h => h.1 rfl)])
      clear hX hold
      gi_wp2
      refine round_region_quiet (by kernel_rfl) (by kernel_rfl) (by kernel_rfl) ?_
      repeat (first | go_big_quiet_step (fail) | quiet_step (fail))
      refine wpQuiet_nil ?_
      intro _ hw'
      obtain ⟨nq, hw''⟩ := hw'
      subst hw''
      refine NoOut.normal ?_
      gi_wp2
      have hD := (Below.refl W.heap.size W).drewsN nq
      exact ⟨keepsOthers_of_below hD, KpC.of_below hD (by simp; have := HX.out.old.size; omega), by rw [HG.out, HS2.out]; exact HX.out.out_.on hD, (hD.cell (p := ⟨w3.heap.size, 0, none⟩) (World.block_lt_of_cell? _ _ hown)).trans hown, HX.out.old.drewsN nq⟩
    · have hq0 : (q == -1) = false := by rw [beq_eq_false_iff_ne]; omega
      have hq1 : (q != -1) = true := by rw [bne_iff_ne]; omega
      have hqt : q.toNat = kb := by omega
      have hq2 : 0 ≤ q := by omega
      have hq3 : q < (n : Int) := by omega
      obtain ⟨bA, oA, rfl, hbA, cA1, cA2, cA3⟩ := HR.out.at_ (k := kb) (by rw [HN.out]; exact hkn)
      obtain ⟨bB, oB, rfl, hbB, cB⟩ := HK.out.2.2.2.2.1.at_ (k := kb) (by rw [cntsT_len]; exact hkn)
      rw [cntsT_ix _ _ _ hkn] at cB
      have cT := (hold.cell (p := ⟨bA, oA + kb * 3 + 2, none⟩) (by show bA < _; omega)).trans ((HK.out.1.cell (p := ⟨bA, oA + kb * 3 + 2, none⟩) hbA).trans cA3)
      have cN := (hold.cell (p := ⟨bB, oB + kb, none⟩) (by show bB < _; omega)).trans cB
      have cO := hX.cell (k := kb) (by rw [hfl]; exact hkn)
      have fO := hX.frozen kb
      have HSk : Hid ((ix out kb < 0 ∧ cntI p kb = tc L kb → st out m = out.set kb ((m : Int) + 1)) ∧ (¬ (ix out kb < 0 ∧ cntI p kb = tc L kb) → st out m = out)) := Lib.hid (by
        constructor
        · intro h; rw [HSm.out, if_pos ⟨by omega, by rw [hqt]; exact h.1, by rw [hqt]; exact h.2⟩, hqt]
        · intro h; rw [HSm.out, if_neg (fun h2 => h ⟨by rw [← hqt]; exact h2.2.1, by rw [← hqt]; exact h2.2.2⟩)])
      have HQ := Lib.hid hkb
      have v1 : IntKind.i64.wrap ((m : Int) + 1) = (m : Int) + 1 := IntWalk.i64_in _ (by omega)
      clear hX hold hq hkb cA1 cA2 cA3 cB HSm
      generalize ix out kb = ov at *
      generalize cntI p kb = cn at *
      generalize tc L kb = tz at *
      have hsz := HX.out.old.size
      by_cases ho : ov < 0
      · by_cases ht : cn = tz
        · have HS2 := Lib.hid (HSk.out.1 ⟨ho, ht⟩)
          have ho2 : decide (ov < 0) = true := by rw [decide_eq_true_eq]; exact ho
          have ht2 : (cn == tz) = true := by rw [beq_iff_eq]; exact ht
          clear ho ht HSk
          gi_wp2
          refine round_region_quiet (by kernel_rfl) (by kernel_rfl) (by kernel_rfl) ?_
          repeat (first | go_big_quiet_step (fail) | quiet_step (fail))
          refine wpQuiet_nil ?_
          intro _ hw'
          obtain ⟨nq, hw''⟩ := hw'
          subst hw''
          refine NoOut.normal ?_
          gi_wp2
          have hD := (Below.refl W.heap.size W).drewsN nq
          have hb2 := (HX.out.out_.on hD).set_ kb ((m : Int) + 1)
          exact ⟨(keepsOthers_of_below hD).trans (KeepsOthers.setCell _ _ _), ⟨by simp, fun g hg o => by
            simp at hg
            rw [World.cell?_setCell_other _ _ _ _ (by intro e; injection e; omega)]
            exact hD.cell (p := ⟨g, o, none⟩) (by show g < _; omega)⟩, by rw [HG.out, HS2.out]; exact hb2, by
            rw [World.cell?_setCell_other _ _ _ _ (by intro e; injection e; omega)]
            exact (hD.cell (p := ⟨w3.heap.size, 0, none⟩) (World.block_lt_of_cell? _ _ hown)).trans hown, (HX.out.old.drewsN nq).setCell (p := ⟨w2.heap.size + 1 + 1, kb, none⟩) (Nat.le_refl _) _⟩
        · have HS2 := Lib.hid (HSk.out.2 (fun h => ht h.2))
          have ho2 : decide (ov < 0) = true := by rw [decide_eq_true_eq]; exact ho
          have ht2 : (cn == tz) = false := by rw [beq_eq_false_iff_ne]; exact ht
          clear ho ht HSk
          gi_wp2
          refine round_region_quiet (by kernel_rfl) (by kernel_rfl) (by kernel_rfl) ?_
          repeat (first | go_big_quiet_step (fail) | quiet_step (fail))
          refine wpQuiet_nil ?_
          intro _ hw'
          obtain ⟨nq, hw''⟩ := hw'
          subst hw''
          refine NoOut.normal ?_
          gi_wp2
          have hD := (Below.refl W.heap.size W).drewsN nq
          exact ⟨keepsOthers_of_below hD, KpC.of_below hD (by simp; omega), by rw [HG.out, HS2.out]; exact HX.out.out_.on hD, (hD.cell (p := ⟨w3.heap.size, 0, none⟩) (World.block_lt_of_cell? _ _ hown)).trans hown, HX.out.old.drewsN nq⟩
      · have HS2 := Lib.hid (HSk.out.2 (fun h => ho h.1))
        have ho2 : decide (ov < 0) = false := by rw [decide_eq_false_iff_not]; exact ho
        clear ho HSk
        gi_wp2
        refine round_region_quiet (by kernel_rfl) (by kernel_rfl) (by kernel_rfl) ?_
        repeat (first | go_big_quiet_step (fail) | quiet_step (fail))
        refine wpQuiet_nil ?_
        intro _ hw'
        obtain ⟨nq, hw''⟩ := hw'
        subst hw''
        refine NoOut.normal ?_
        gi_wp2
        have hD := (Below.refl W.heap.size W).drewsN nq
        exact ⟨keepsOthers_of_below hD, KpC.of_below hD (by simp; omega), by rw [HG.out, HS2.out]; exact HX.out.out_.on hD, (hD.cell (p := ⟨w3.heap.size, 0, none⟩) (World.block_lt_of_cell? _ _ hown)).trans hown, HX.out.old.drewsN nq⟩
  case done =>
    rintro D ys W hD hys ⟨hX, hown, hold⟩ hK
    rw [hys, HFA.out] at hX
    have HX := Lib.hid hX
    have HOL := Lib.hid hold
    clear hX hold hys
    go_wp2
    refine ⟨by simp, .inl ⟨_, _, rfl, run_takeDeferred hK, ?_⟩⟩
    have hD2 := belowK_b (w := W5) (Nat.le_refl _) W D _ (.deferred none) hD hK rfl rfl
    refine ⟨.tuple #[.slice (some ⟨w2.heap.size + 1 + 1, 0, none⟩) n n, .int .i64 0], by simp [results, Try.results51, go_sem], H1.out _ _ n ?_ ?_⟩
    · exact (HK.out.1.trans (HOL.out.mono (by omega))).trans (hD2.mono (by omega))
    · exact (HX.out.keep hD2 (by omega)).rd
  case stop =>
    rintro D c pre W _ _ h _
    exact h.elim

theorem Done_any (A : Option Addr) (c : Nat) (L : List (Int × Int × Int)) (A2 : Option Addr) (c2 : Nat) (p : List Int) (w : World) (hr : RdT w w.heap.size A L) (hl : L.length ≤ 1000000) (hr2 : RdI w w.heap.size A2 p) (hl2 : p.length ≤ 1000000) :
    Calls Try.prog 51 #[.slice A L.length c, .slice A2 p.length c2] w (OutI (DonE L p) (DonK L p) w) := by
  by_cases h0 : AskE L p = 0
  · cases hb : rightB L p
    · exact Done_no2 A c L A2 c2 p w hr hl hr2 hl2 h0 hb
    · exact Done_yes A c L A2 c2 p w hr hl hr2 hl2 h0 hb
  · exact Done_no1 A c L A2 c2 p w hr hl hr2 hl2 h0
end Go.Proofs.Ytdafiblnanpiiaa
