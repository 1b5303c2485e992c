/- Walks over package alert: the plan of a list; Right, DoesAll, Free; Urgent. -/
import Derived.Test.YtdafiblnanpiiaaAlY
namespace Go.Proofs.Ytdafiblnanpiiaa
open Go.RowKit
set_option linter.unusedSimpArgs false
set_option linter.unusedVariables false

/-! ### ContainsFunc over numbers -/
def PredI (g : Nat) (lb : Array Value) (p : Int → Bool) (w : World) : Prop :=
  ∀ (W : World) (x : Int), Below w.heap.size w W → Calls Try.prog g (#[.int .i64 x] ++ lb) W fun e w' => e = .returned (.bool (p x)) ∧ Below W.heap.size W w'
theorem IndexFuncI_any (g : Nat) (lb : Array Value) (A : Option Addr) (c : Nat) (l : List Int) (p : Int → Bool) (w : World) (hr : RdI w w.heap.size A l) (hl : l.length ≤ 1125899906842624)
  (eg : ∀ args w, (callFunc g args).run Try.prog w = .ok (.enter g args) w) (hp : PredI g lb p w) :
    Calls Try.prog 100 #[.slice A l.length c, .func (.func g) #[] lb] w fun e w' => e = .returned (.int .i64 (idxF (fun k => p (ix l k)) l.length)) ∧ Below w.heap.size w w' := by
  have HP := Lib.hid hp; clear hp
  have HR := Lib.hid hr; clear hr
  generalize hq : idxF (fun k => p (ix l k)) l.length = res
  have HQ := Lib.hid hq; clear hq
  generalize hn : l.length = n at *
  have HN := Lib.hid hn; clear hn
  go_enter Try.func100, Try.ntmps100
  go_wp2
  go_loopg [8] n (fun k s wr => ∃ i : Nat, s = .int .i64 i ∧ i ≤ n ∧ n - i ≤ k ∧ Below w.heap.size w wr ∧ Aside (∀ t, t < i → p (ix l t) = false))
  case atStart => exact ⟨0, rfl, by omega, by omega, Below.refl _ _, (fun t ht => absurd ht (Nat.not_lt_zero t) : ∀ t, t < 0 → p (ix l t) = false)⟩
  case round =>
    obtain ⟨i, rfl, hi, hk, hB, HA⟩ := hrel
    by_cases hlt : i < n
    · obtain ⟨b, o, rfl, hb, c1⟩ := HR.out.at_ (k := i) (by rw [HN.out]; exact hlt)
      rw [← hB.cell hb] at c1
      have hcall := HP.out wr (ix l i) hB
      cases hpi : p (ix l i)
      all_goals
        rw [hpi] at hcall
        have HPI := Lib.hid hpi; clear hpi
        go_wp2_with (go_at_fn g; refine hcall.mono ?_; rintro e w' ⟨rfl, hB'⟩)
      · go_roundg (n - (i + 1))
        case measure => omega
        case rel => exact ⟨i + 1, by go_num, by omega, by omega, hB.trs hB', fun t ht => by
            rcases Nat.lt_succ_iff_lt_or_eq.1 ht with h | rfl
            · exact HA.out t h
            · exact HPI.out⟩
      · go_ret
        exact ⟨ret_int (by rw [← HQ.out]; exact (idxF_hit hlt HPI.out HA.out).symm), hB.trs hB'⟩
    · obtain rfl : i = n := by omega
      go_wp2
      go_ret
      exact ⟨ret_int (by rw [← HQ.out]; exact (idxF_miss HA.out).symm), hB⟩
theorem ContainsFuncI_any (g : Nat) (lb : Array Value) (A : Option Addr) (c : Nat) (l : List Int) (p : Int → Bool) (w : World) (hr : RdI w w.heap.size A l) (hl : l.length ≤ 1125899906842624)
  (eg : ∀ args w, (callFunc g args).run Try.prog w = .ok (.enter g args) w) (hp : PredI g lb p w) :
    Calls Try.prog 93 #[.slice A l.length c, .func (.func g) #[] lb] w fun e w' => e = .returned (.bool (anyF (fun k => p (ix l k)) l.length)) ∧ Below w.heap.size w w' := by
  have H := IndexFuncI_any g lb A c l p w hr hl eg hp
  have HH := Lib.hid H; clear H hr
  have HP := Lib.hid hp; clear hp
  generalize hn : idxF (fun k => p (ix l k)) l.length = r at *
  have HN := Lib.hid hn; clear hn
  generalize l.length = n at *
  go_enter Try.func93, Try.ntmps93
  go_wp2_with (go_at_call 100; refine HH.out.mono ?_; rintro e w' ⟨rfl, hB⟩)
  go_ret
  exact ⟨ret_bool (by unfold anyF; rw [HN.out]), hB⟩

theorem asked1_any (A : Option Addr) (n c b : Nat) (x : Int) (w : World) (hn : n ≤ 1000000) (hcell : w.cell? ⟨b, 0, none⟩ = some (.slice A n c)) :
    Calls Try.prog 94 #[.int .i64 x, .pointer (some ⟨b, 0, none⟩)] w fun e w' => e = .returned (.bool (!(btw (-1) x ((n : Int) - 1)))) ∧ w = w' := by
  go_enter Try.func94, Try.ntmps94
  go_wp2_with (go_at_call 70; (with_reducible refine (between_any _ _ _ _).mono ?_); rintro e w' ⟨rfl, rfl⟩)
  go_ret
  exact ⟨rfl, rfl⟩

/-- the plan of a list, or an error -/
def AskR (L : List (Int × Int × Int)) (p : List Int) (w : World) (e : Ending) (w' : World) : Prop :=
  Below w.heap.size w w' ∧ ((AskE L p = 0 ∧ vldT L = true ∧ plnB L.length p = true ∧ e = .returned (.tuple #[.agg (p.map (Value.int .i64)).toArray, .int .i64 0])) ∨
    (AskE L p ≠ 0 ∧ e = .returned (.tuple #[.agg Try.zeroCells69, .int .i64 (AskE L p)])))
theorem zeroCells_all : (Try.zeroCells69).all (·.oneCell') = true := by kernel_rfl
theorem zeroCells_size : (Try.zeroCells69).size = 100 := by kernel_rfl
theorem RdI.range {w : World} {B : Nat} {A : Option Addr} {l : List Int} (h : RdI w B A l) (hne : 0 < l.length) : ∃ b o, A = some ⟨b, o, none⟩ ∧ b < B ∧ w.rangeAt b o (l.map (Value.int .i64)) := by
  rcases h with rfl | ⟨b, o, h1, h2, h3⟩
  · simp at hne
  · refine ⟨b, o, h1, h2, fun j v hv => ?_⟩
    have hj : j < l.length := by have := (List.getElem?_eq_some_iff.1 hv).1; simpa using this
    rw [h3 j hj]
    simpa [ix, hj] using hv

theorem arrayAt_plan (a : Option Addr) (c : Nat) (w : World) : (Instr.arrayAt 69 (.slice a 100 c)).run Try.prog w = .ok (.pointer a) w := by
  simp [Instr.arrayAt, go_sem, Try.underlying69]
theorem range_on {w w' : World} {b o : Nat} {cs : List Value} (hB : Below w.heap.size w w') (hb : b < w.heap.size) (h : w.rangeAt b o cs) : w'.rangeAt b o cs := fun j v hv => (hB.cell (p := ⟨b, o + j, none⟩) hb).trans (h j v hv)
theorem box_there {w : World} {g : Nat} {t : TypeId} {cs : Array Value} {n : Nat} (h : Box w g t cs) (hn : cs.size = n) : w.there g 0 n := fun j hj => by
  rw [Nat.zero_add]
  exact ⟨by rw [h.cell]; rw [Array.getElem?_eq_getElem (by omega)]; rfl, h.frozen j⟩
theorem box_setAll {w : World} {g : Nat} {t : TypeId} {cs vs : Array Value} (h : Box w g t cs) (hl : vs.size = cs.size) : Box (w.setCells g 0 vs.toList) g t vs := by
  have := box_setCells vs.toList 0 cs h (by simp [hl])
  rw [show cs.toList.drop (0 + vs.toList.length) = [] from List.drop_eq_nil_of_le (by simp [hl])] at this
  simpa using this

set_option maxRecDepth 100000 in
set_option maxHeartbeats 8000000 in
theorem asked_any (A : Option Addr) (c : Nat) (L : List (Int × Int × Int)) (A2 : Option Addr) (c2 : Nat) (p : List Int) (w : World) (hr : RdT w w.heap.size A L) (hl : L.length ≤ 1000000) (hr2 : RdI w w.heap.size A2 p) (hl2 : p.length ≤ 1000000) :
    Calls Try.prog 75 #[.slice A L.length c, .slice A2 p.length c2] w (AskR L p w) := by
  have hB1 := below_alloc w (.cells #[.slice A L.length c] 22)
  have hcell := cell_one w (.slice A L.length c) 22
  have b2 := Box.new (w.alloc (.cells #[.slice A L.length c] 22)) 69 Try.zeroCells69
  rw [World.size_alloc] at b2
  have hB2 := hB1.trs (below_alloc (w.alloc (.cells #[.slice A L.length c] 22)) (.cells Try.zeroCells69 69))
  have hc2 : ((w.alloc (.cells #[.slice A L.length c] 22)).alloc (.cells Try.zeroCells69 69)).cell? ⟨w.heap.size, 0, none⟩ = some (.slice A L.length c) :=
    ((below_alloc (w.alloc (.cells #[.slice A L.length c] 22)) (.cells Try.zeroCells69 69)).cell (p := ⟨w.heap.size, 0, none⟩) (by simp)).trans hcell
  have HV := Lib.hid (Valid_any A c L _ (hr.on hB2) (by omega))
  have hE : AskE L p = if vldT L then (if plnB L.length p then 0 else 81) else 80 := rfl
  have H1 : Hid (vldT L = false → ∀ W, Below w.heap.size w W → AskR L p w (.returned (.tuple #[.agg Try.zeroCells69, .int .i64 80])) W) := Lib.hid (fun h W hW => ⟨hW, .inr ⟨by rw [hE, h, if_neg (by simp)]; decide, by rw [hE, h]; rfl⟩⟩)
  have H2 : Hid (vldT L = true → plnB L.length p = false → ∀ W, Below w.heap.size w W → AskR L p w (.returned (.tuple #[.agg Try.zeroCells69, .int .i64 81])) W) := Lib.hid (fun h h' W hW => ⟨hW, .inr ⟨by rw [hE, h, h', if_pos rfl, if_neg (by simp)]; decide, by rw [hE, h, h']; rfl⟩⟩)
  have H3 : Hid (vldT L = true → plnB L.length p = true → ∀ W, Below w.heap.size w W → AskR L p w (.returned (.tuple #[.agg (p.map (Value.int .i64)).toArray, .int .i64 0])) W) := Lib.hid (fun h h' W hW => ⟨hW, .inl ⟨by rw [hE, h, h']; rfl, h, h', rfl⟩⟩)
  have hP : plnB L.length p = (decide (p.length = 100) && !(anyF (fun k => !(btw (-1) (ix p k) ((L.length : Int) - 1))) p.length)) := rfl
  generalize AskR L p w = Q at *
  have HC := Lib.hid (fun W (hW : Below ((w.alloc (.cells #[.slice A L.length c] 22)).alloc (.cells Try.zeroCells69 69)).heap.size ((w.alloc (.cells #[.slice A L.length c] 22)).alloc (.cells Try.zeroCells69 69)) W) =>
    ContainsFuncI_any 94 #[.pointer (some ⟨w.heap.size, 0, none⟩)] A2 c2 p (fun x => !(btw (-1) x ((L.length : Int) - 1))) W ((hr2.on hB2).on hW) (by omega) (enters_of Try.func94 (by kernel_rfl) rfl)
      (fun W' x hW' => (asked1_any A L.length c w.heap.size x W' hl (((hW.trs hW').cell (p := ⟨w.heap.size, 0, none⟩) (by simp; omega)).trans hc2)).mono (fun e w' ⟨h1, h2⟩ => by subst h2; exact ⟨h1, Below.refl _ _⟩)))
  have HB2 := Lib.hid hB2
  have HBX := Lib.hid b2
  have HC2 := Lib.hid hc2
  have HR2 := Lib.hid (hr2.on hB2)
  clear hr hr2 hB1 hcell hB2 b2 hc2 hE
  have hzs := zeroCells_size
  have hza := zeroCells_all
  go_enter Try.func75, Try.ntmps75
  have hu69 := Try.underlying69
  have HU69 := Lib.hid hu69; clear hu69
  cases hv : vldT L
  · have HV0 := Lib.hid hv
    rw [hv] at HV
    clear hv H2 H3
    go_wp2_with (first
      | (go_at_call 49; refine HV.out.mono ?_; rintro e w1 ⟨rfl, h1⟩; have HW := Lib.hid (HBX.out.on h1); have HB := Lib.hid (HB2.out.trs h1))
      | (refine wpList_store_mid rfl 69 (.tmp 4) (.tmp 10) rfl (w.heap.size + 1) 0 Try.zeroCells69 rfl rfl (box_there HW.out zeroCells_size) (by rw [infoPlan, zeroCells_size]) zeroCells_all ?_))
    have hbx := box_setAll HW.out (vs := Try.zeroCells69) rfl
    have hB := below_setCells (g := w.heap.size + 1) (by omega : w.heap.size ≤ w.heap.size + 1) (Try.zeroCells69).toList 0 _ HB.out
    generalize World.setCells w1 (w.heap.size + 1) 0 (Try.zeroCells69).toList = W at *
    have hload := run_loadVar_row (P := Try.prog) W (w.heap.size + 1) 69 69 _ (0, 0) _ hbx HU69.out rfl (by rw [infoPlan, zeroCells_size])
    exact bodyPost_ret (results_cell_tmp Try.results75 (p := ⟨w.heap.size + 1, 0, none⟩) rfl hload) rfl (H1.out HV0.out _ hB)
  · have HV0 := Lib.hid hv
    rw [hv] at HV
    clear hv H1
    by_cases hpl : p.length = 100
    · have HLP := Lib.hid hpl
      rw [hpl, decide_eq_true rfl, Bool.true_and] at hP
      obtain ⟨b, o, rfl, hb, hrg⟩ := HR2.out.range (by omega)
      have HRG := Lib.hid (And.intro hb hrg)
      rw [hpl] at HC ⊢
      clear hb hrg hpl
      generalize anyF (fun k => !(btw (-1) (ix p k) ((L.length : Int) - 1))) 100 = an at *
      have HP := Lib.hid hP
      clear hP hl hl2
      cases an
      · go_wp2_with (first
          | (go_at_call 49; refine HV.out.mono ?_; rintro e w1 ⟨rfl, h1⟩)
          | (go_at_call 93; refine (HC.out _ h1).mono ?_; rintro e w2 ⟨rfl, h2⟩; have HT := Lib.hid (h1.trs h2); have HW := Lib.hid (HBX.out.on (h1.trs h2)); have HB := Lib.hid (HB2.out.trs (h1.trs h2)))
          | (rw [arrayAt_plan])
          | (refine wpList_load_mid rfl 69 (.tmp 22) rfl b o rfl (p.map (Value.int .i64)) _ (range_on HT.out HRG.out.1 HRG.out.2) HU69.out rfl (by rw [infoPlan]; simp [HLP.out]) ?_)
          | (refine wpList_store_mid rfl 69 (.tmp 4) (.tmp 23) rfl (w.heap.size + 1) 0 (p.map (Value.int .i64)).toArray rfl rfl (by have := box_there HW.out zeroCells_size; simpa [HLP.out] using this) (by rw [infoPlan]; simp [HLP.out]) (by simp [Value.oneCell']) ?_))
        have hbx : Box (World.setCells w2 (w.heap.size + 1) 0 (p.map (Value.int .i64))) (w.heap.size + 1) 69 (p.map (Value.int .i64)).toArray := box_setAll HW.out (vs := (p.map (Value.int .i64)).toArray) (by rw [zeroCells_size]; simp [HLP.out])
        have hB : Below w.heap.size w (World.setCells w2 (w.heap.size + 1) 0 (p.map (Value.int .i64))) := below_setCells (g := w.heap.size + 1) (by omega : w.heap.size ≤ w.heap.size + 1) (p.map (Value.int .i64)) 0 _ HB.out
        have hsz : ((p.map (Value.int .i64)).toArray).size = 100 := by simp [HLP.out]
        generalize World.setCells w2 (w.heap.size + 1) 0 (p.map (Value.int .i64)) = W at *
        have H3' := Lib.hid (H3.out HV0.out HP.out W hB)
        generalize (p.map (Value.int .i64)).toArray = V at *
        have hload := run_loadVar_row (P := Try.prog) W (w.heap.size + 1) 69 69 V (0, 0) _ hbx HU69.out rfl (by rw [infoPlan, hsz])
        exact bodyPost_ret (v := .tuple #[.agg V, .int .i64 0]) (results_cell_tmp Try.results75 (p := ⟨w.heap.size + 1, 0, none⟩) rfl hload) rfl H3'.out
      · go_wp2_with (first
          | (go_at_call 49; refine HV.out.mono ?_; rintro e w1 ⟨rfl, h1⟩)
          | (go_at_call 93; refine (HC.out _ h1).mono ?_; rintro e w2 ⟨rfl, h2⟩; have HT := Lib.hid (h1.trs h2); have HW := Lib.hid (HBX.out.on (h1.trs h2)); have HB := Lib.hid (HB2.out.trs (h1.trs h2)))
          | (refine wpList_store_mid rfl 69 (.tmp 4) (.tmp 20) rfl (w.heap.size + 1) 0 Try.zeroCells69 rfl rfl (box_there HW.out zeroCells_size) (by rw [infoPlan, zeroCells_size]) zeroCells_all ?_))
        have hbx := box_setAll HW.out (vs := Try.zeroCells69) rfl
        have hB := below_setCells (g := w.heap.size + 1) (by omega : w.heap.size ≤ w.heap.size + 1) (Try.zeroCells69).toList 0 _ HB.out
        generalize World.setCells w2 (w.heap.size + 1) 0 (Try.zeroCells69).toList = W at *
        have hload := run_loadVar_row (P := Try.prog) W (w.heap.size + 1) 69 69 _ (0, 0) _ hbx HU69.out rfl (by rw [infoPlan, zeroCells_size])
        exact bodyPost_ret (results_cell_tmp Try.results75 (p := ⟨w.heap.size + 1, 0, none⟩) rfl hload) rfl (H2.out HV0.out HP.out _ hB)
    · have hne : ((p.length : Int) == 100) = false := by rw [beq_eq_false_iff_ne]; omega
      have HP : Hid (plnB L.length p = false) := Lib.hid (by rw [hP, decide_eq_false hpl]; rfl)
      clear hP
      generalize p.length = m at *
      go_wp2_with (first
        | (go_at_call 49; refine HV.out.mono ?_; rintro e w1 ⟨rfl, h1⟩; have HW := Lib.hid (HBX.out.on h1); have HB := Lib.hid (HB2.out.trs h1))
        | (refine wpList_store_mid rfl 69 (.tmp 4) (.tmp 20) rfl (w.heap.size + 1) 0 Try.zeroCells69 rfl rfl (box_there HW.out zeroCells_size) (by rw [infoPlan, zeroCells_size]) zeroCells_all ?_))
      have hbx := box_setAll HW.out (vs := Try.zeroCells69) rfl
      have hB := below_setCells (g := w.heap.size + 1) (by omega : w.heap.size ≤ w.heap.size + 1) (Try.zeroCells69).toList 0 _ HB.out
      generalize World.setCells w1 (w.heap.size + 1) 0 (Try.zeroCells69).toList = W at *
      have hload := run_loadVar_row (P := Try.prog) W (w.heap.size + 1) 69 69 _ (0, 0) _ hbx HU69.out rfl (by rw [infoPlan, zeroCells_size])
      exact bodyPost_ret (results_cell_tmp Try.results75 (p := ⟨w.heap.size + 1, 0, none⟩) rfl hload) rfl (H2.out HV0.out HP.out _ hB)

/-- a plan stored into a new block -/
theorem stored_plan (w1 : World) (V : Array Value) (h : V.size = 100) : Hid (Box (World.setCells (w1.alloc (.cells Try.zeroCells69 69)) w1.heap.size 0 V.toList) w1.heap.size 69 V) ∧ Hid (Below w1.heap.size w1 (World.setCells (w1.alloc (.cells Try.zeroCells69 69)) w1.heap.size 0 V.toList)) :=
  ⟨Lib.hid (box_setAll (Box.new w1 69 Try.zeroCells69) (by rw [h, zeroCells_size])), Lib.hid (below_setCells (Nat.le_refl w1.heap.size) V.toList 0 _ (below_alloc w1 (.cells Try.zeroCells69 69)))⟩
/-! ### Right, DoesAll, Free -/
def RightV (L : List (Int × Int × Int)) (p : List Int) : Value := .tuple #[.bool (decide (AskE L p = 0) && rightB L p), .int .i64 (AskE L p)]
def DoesV (L : List (Int × Int × Int)) (p : List Int) : Value := .tuple #[.bool (decide (AskE L p = 0) && allB L p), .int .i64 (AskE L p)]
def FreeV (L : List (Int × Int × Int)) (p : List Int) : Value := .tuple #[.int .i64 (if AskE L p = 0 then freeT p 100 else 0), .int .i64 (AskE L p)]


set_option maxRecDepth 100000 in
set_option maxHeartbeats 8000000 in
theorem Right_any (A : Option Addr) (c : Nat) (L : List (Int × Int × Int)) (A2 : Option Addr) (c2 : Nat) (p : List Int) (w : World) (hr : RdT w w.heap.size A L) (hl : L.length ≤ 1000000) (hr2 : RdI w w.heap.size A2 p) (hl2 : p.length ≤ 1000000) :
    Calls Try.prog 32 #[.slice A L.length c, .slice A2 p.length c2] w fun e w' => e = .returned (RightV L p) ∧ Below w.heap.size w w' := by
  have HA := Lib.hid (asked_any A c L A2 c2 p w hr hl hr2 hl2)
  unfold AskR at HA
  have HW := Lib.hid (fun (hv : vldT L = true) (hp : plnB L.length p = true) W (hW : Below w.heap.size w W) => work_any A c L p W (hr.on hW) (okT_of hv) hp)
  unfold WorkR at HW
  clear hr hr2 hl hl2
  have H0 : Hid (AskE L p = 0 → RightV L p = .tuple #[.bool (rightB L p), .int .i64 0]) := Lib.hid (fun h => by unfold RightV; rw [h]; rfl)
  have H1 : Hid (AskE L p ≠ 0 → RightV L p = .tuple #[.bool false, .int .i64 (AskE L p)]) := Lib.hid (fun h => by unfold RightV; first | (rw [decide_eq_false h]; rfl) | (rw [if_neg h]))
  have HU69 := Lib.hid Try.underlying69
  have hzs := zeroCells_size
  have hza := zeroCells_all
  have hps : plnB L.length p = true → ((p.map (Value.int .i64)).toArray).size = 100 ∧ ((p.map (Value.int .i64)).toArray).all (·.oneCell') = true ∧ ∀ m, m < 100 → ((p.map (Value.int .i64)).toArray)[m]? = some (.int .i64 (ix p m)) := fun h => by
    have hlen := (plnB_iff.1 h).1
    exact ⟨by simp [hlen], by simp [Value.oneCell'], fun m hm => by simp [ix, hm, hlen]⟩
  have HPS := Lib.hid hps
  clear hps
  generalize (p.map (Value.int .i64)).toArray = V at *
  generalize RightV L p = RV at *
  generalize hrb0 : rightB L p = rb at *
  clear hrb0
  generalize hn : L.length = n at *
  generalize p.length = m at *
  go_enter Try.func32, Try.ntmps32
  go_wp2_with (first
    | (go_at_call 75; refine HA.out.mono ?_; rintro e w1 ⟨h1, ⟨ha, hv, hp, rfl⟩ | ⟨ha, rfl⟩⟩ <;> (first | (have HVP := Lib.hid (And.intro hv hp); have HK := Lib.hid ha; clear ha hv hp) | (have hbn : (AskE L p == 0) = false := (by rw [beq_eq_false_iff_ne]; exact ha); have HK := Lib.hid ha; clear ha)))
    | (refine wpList_store_mid rfl 69 (.tmp 6) (.tmp 14) rfl w1.heap.size 0 V rfl rfl (by rw [(HPS.out HVP.out.2).1]; exact box_there (Box.new w1 _ _) zeroCells_size) (by rw [infoPlan, (HPS.out HVP.out.2).1]) (HPS.out HVP.out.2).2.1 ?_; obtain ⟨HB2, HS2⟩ := stored_plan w1 V (HPS.out HVP.out.2).1; generalize World.setCells _ w1.heap.size 0 V.toList = W2 at *)
    | (refine wpList_store_mid rfl 69 (.tmp 6) (.tmp 14) rfl w1.heap.size 0 Try.zeroCells69 rfl rfl (box_there (Box.new w1 _ _) zeroCells_size) (by rw [infoPlan, zeroCells_size]) zeroCells_all ?_; obtain ⟨HB2, HS2⟩ := stored_plan w1 Try.zeroCells69 zeroCells_size; generalize World.setCells _ w1.heap.size 0 (Try.zeroCells69).toList = W2 at *)
    | (refine wpList_load_row rfl 69 (.tmp 6) rfl w1.heap.size rfl 69 V (0, 0) _ HB2.out HU69.out rfl (by rw [infoPlan, (HPS.out HVP.out.2).1]) ?_)
    | (go_at_call 76; refine (HW.out HVP.out.1 HVP.out.2 _ (h1.trs HS2.out)).mono ?_; rintro e w2 ⟨h2, v, rfl, ⟨rfl, B, c', rfl, hB⟩ | ⟨rfl, rfl⟩⟩))
  · go_ret2
    exact ⟨by rw [H0.out HK.out]; first | done | rfl, (h1.trs HS2.out).trs h2⟩
  · go_ret2
    exact ⟨by rw [H0.out HK.out]; first | done | rfl, (h1.trs HS2.out).trs h2⟩
  · go_ret2
    exact ⟨by rw [H1.out HK.out]; first | done | rfl, h1.trs HS2.out⟩

set_option maxRecDepth 100000 in
set_option maxHeartbeats 8000000 in
theorem DoesAll_any (A : Option Addr) (c : Nat) (L : List (Int × Int × Int)) (A2 : Option Addr) (c2 : Nat) (p : List Int) (w : World) (hr : RdT w w.heap.size A L) (hl : L.length ≤ 1000000) (hr2 : RdI w w.heap.size A2 p) (hl2 : p.length ≤ 1000000) :
    Calls Try.prog 47 #[.slice A L.length c, .slice A2 p.length c2] w fun e w' => e = .returned (DoesV L p) ∧ Below w.heap.size w w' := by
  have HA := Lib.hid (asked_any A c L A2 c2 p w hr hl hr2 hl2)
  unfold AskR at HA
  have HW := Lib.hid (fun (hv : vldT L = true) (hp : plnB L.length p = true) W (hW : Below w.heap.size w W) => all_any A c L p W (hr.on hW) (okT_of hv) hp)
  clear hr hr2 hl hl2
  have H0 : Hid (AskE L p = 0 → DoesV L p = .tuple #[.bool (allB L p), .int .i64 0]) := Lib.hid (fun h => by unfold DoesV; rw [h]; rfl)
  have H1 : Hid (AskE L p ≠ 0 → DoesV L p = .tuple #[.bool false, .int .i64 (AskE L p)]) := Lib.hid (fun h => by unfold DoesV; first | (rw [decide_eq_false h]; rfl) | (rw [if_neg h]))
  have HU69 := Lib.hid Try.underlying69
  have hzs := zeroCells_size
  have hza := zeroCells_all
  have hps : plnB L.length p = true → ((p.map (Value.int .i64)).toArray).size = 100 ∧ ((p.map (Value.int .i64)).toArray).all (·.oneCell') = true ∧ ∀ m, m < 100 → ((p.map (Value.int .i64)).toArray)[m]? = some (.int .i64 (ix p m)) := fun h => by
    have hlen := (plnB_iff.1 h).1
    exact ⟨by simp [hlen], by simp [Value.oneCell'], fun m hm => by simp [ix, hm, hlen]⟩
  have HPS := Lib.hid hps
  clear hps
  generalize (p.map (Value.int .i64)).toArray = V at *
  generalize DoesV L p = RV at *
  generalize allB L p = al at *
  generalize hn : L.length = n at *
  generalize p.length = m at *
  go_enter Try.func47, Try.ntmps47
  go_wp2_with (first
    | (go_at_call 75; refine HA.out.mono ?_; rintro e w1 ⟨h1, ⟨ha, hv, hp, rfl⟩ | ⟨ha, rfl⟩⟩ <;> (first | (have HVP := Lib.hid (And.intro hv hp); have HK := Lib.hid ha; clear ha hv hp) | (have hbn : (AskE L p == 0) = false := (by rw [beq_eq_false_iff_ne]; exact ha); have HK := Lib.hid ha; clear ha)))
    | (refine wpList_store_mid rfl 69 (.tmp 6) (.tmp 12) rfl w1.heap.size 0 V rfl rfl (by rw [(HPS.out HVP.out.2).1]; exact box_there (Box.new w1 _ _) zeroCells_size) (by rw [infoPlan, (HPS.out HVP.out.2).1]) (HPS.out HVP.out.2).2.1 ?_; obtain ⟨HB2, HS2⟩ := stored_plan w1 V (HPS.out HVP.out.2).1; generalize World.setCells _ w1.heap.size 0 V.toList = W2 at *)
    | (refine wpList_store_mid rfl 69 (.tmp 6) (.tmp 12) rfl w1.heap.size 0 Try.zeroCells69 rfl rfl (box_there (Box.new w1 _ _) zeroCells_size) (by rw [infoPlan, zeroCells_size]) zeroCells_all ?_; obtain ⟨HB2, HS2⟩ := stored_plan w1 Try.zeroCells69 zeroCells_size; generalize World.setCells _ w1.heap.size 0 (Try.zeroCells69).toList = W2 at *)
    | (refine wpList_load_row rfl 69 (.tmp 6) rfl w1.heap.size rfl 69 V (0, 0) _ HB2.out HU69.out rfl (by rw [infoPlan, (HPS.out HVP.out.2).1]) ?_))
  · refine wp_load_row 69 (.tmp 6) rfl w1.heap.size rfl 69 V (0, 0) _ HB2.out HU69.out rfl (by rw [infoPlan, (HPS.out HVP.out.2).1]) ?_
    go_wp2_with (go_at_call 82; refine (HW.out HVP.out.1 HVP.out.2 _ (h1.trs HS2.out)).mono ?_; rintro e w2 ⟨rfl, h2⟩)
    go_ret2
    exact ⟨by rw [H0.out HK.out]; first | done | rfl, (h1.trs HS2.out).trs h2⟩
  · go_ret2
    exact ⟨by rw [H1.out HK.out]; first | done | rfl, h1.trs HS2.out⟩

set_option maxRecDepth 100000 in
set_option maxHeartbeats 8000000 in
theorem Free_any (A : Option Addr) (c : Nat) (L : List (Int × Int × Int)) (A2 : Option Addr) (c2 : Nat) (p : List Int) (w : World) (hr : RdT w w.heap.size A L) (hl : L.length ≤ 1000000) (hr2 : RdI w w.heap.size A2 p) (hl2 : p.length ≤ 1000000) :
    Calls Try.prog 33 #[.slice A L.length c, .slice A2 p.length c2] w fun e w' => e = .returned (FreeV L p) ∧ Below w.heap.size w w' := by
  have HA := Lib.hid (asked_any A c L A2 c2 p w hr hl hr2 hl2)
  unfold AskR at HA
  clear hr hr2 hl hl2
  have H0 : Hid (AskE L p = 0 → FreeV L p = .tuple #[.int .i64 (freeT p 100), .int .i64 0]) := Lib.hid (fun h => by unfold FreeV; rw [h]; rfl)
  have H1 : Hid (AskE L p ≠ 0 → FreeV L p = .tuple #[.int .i64 0, .int .i64 (AskE L p)]) := Lib.hid (fun h => by unfold FreeV; first | (rw [decide_eq_false h]; rfl) | (rw [if_neg h]))
  have HU69 := Lib.hid Try.underlying69
  have hzs := zeroCells_size
  have hza := zeroCells_all
  have hps : plnB L.length p = true → ((p.map (Value.int .i64)).toArray).size = 100 ∧ ((p.map (Value.int .i64)).toArray).all (·.oneCell') = true ∧ ∀ m, m < 100 → ((p.map (Value.int .i64)).toArray)[m]? = some (.int .i64 (ix p m)) := fun h => by
    have hlen := (plnB_iff.1 h).1
    exact ⟨by simp [hlen], by simp [Value.oneCell'], fun m hm => by simp [ix, hm, hlen]⟩
  have HPS := Lib.hid hps
  clear hps
  generalize (p.map (Value.int .i64)).toArray = V at *
  generalize FreeV L p = RV at *
  have HFS : Hid (∀ m, freeT p (m + 1) = freeT p m + (if ix p m = -1 then 1 else 0)) := Lib.hid (fun _ => rfl)
  have HFB := Lib.hid (freeT_bd p)
  have HF0 : Hid (freeT p 0 = 0) := Lib.hid rfl
  generalize freeT p = fr at *
  generalize hn : L.length = n at *
  generalize p.length = m at *
  go_enter Try.func33, Try.ntmps33
  go_wp2_with (first
    | (go_at_call 75; refine HA.out.mono ?_; rintro e w1 ⟨h1, ⟨ha, hv, hp, rfl⟩ | ⟨ha, rfl⟩⟩ <;> (first | (have HVP := Lib.hid (And.intro hv hp); have HK := Lib.hid ha; clear ha hv hp) | (have hbn : (AskE L p == 0) = false := (by rw [beq_eq_false_iff_ne]; exact ha); have HK := Lib.hid ha; clear ha)))
    | (refine wpList_store_mid rfl 69 (.tmp 6) (.tmp 15) rfl w1.heap.size 0 V rfl rfl (by rw [(HPS.out HVP.out.2).1]; exact box_there (Box.new w1 _ _) zeroCells_size) (by rw [infoPlan, (HPS.out HVP.out.2).1]) (HPS.out HVP.out.2).2.1 ?_; obtain ⟨HB2, HS2⟩ := stored_plan w1 V (HPS.out HVP.out.2).1; generalize World.setCells _ w1.heap.size 0 V.toList = W2 at *)
    | (refine wpList_store_mid rfl 69 (.tmp 6) (.tmp 15) rfl w1.heap.size 0 Try.zeroCells69 rfl rfl (box_there (Box.new w1 _ _) zeroCells_size) (by rw [infoPlan, zeroCells_size]) zeroCells_all ?_; obtain ⟨HB2, HS2⟩ := stored_plan w1 Try.zeroCells69 zeroCells_size; generalize World.setCells _ w1.heap.size 0 (Try.zeroCells69).toList = W2 at *)
    | (refine wpList_load_row rfl 69 (.tmp 6) rfl w1.heap.size rfl 69 V (0, 0) _ HB2.out HU69.out rfl (by rw [infoPlan, (HPS.out HVP.out.2).1]) ?_))
  · have HVI := Lib.hid (HPS.out HVP.out.2).2.2
    go_loopg [8, 21] 100 (fun k s t wr => ∃ j : Nat, s = .int .i64 (fr j) ∧ t = .int .i64 j ∧ j ≤ 100 ∧ 100 - j ≤ k ∧ W2 = wr)
    case atStart => exact ⟨0, by rw [HF0.out], rfl, by omega, by omega, rfl⟩
    case round =>
      obtain ⟨j, rfl, rfl, hj, hk, rfl⟩ := hrel
      by_cases hlj : j < 100
      · have HVX := Lib.hid (index_plan V j _ hlj (HVI.out j hlj))
        have hdm : decide ((j : Int) < 100) = true := by rw [decide_eq_true_eq]; omega
        have hfb := HFB.out j
        have HFJ := Lib.hid (HFS.out j)
        have hf0 : 0 ≤ fr j := hfb.1
        have hf1 : fr j ≤ 100 := by omega
        clear hfb
        generalize ix p j = b at *
        generalize hgf : fr j = f at *
        clear hgf
        by_cases hb : b = -1
        · have HBX := Lib.hid hb
          have hb1 : (b == -1) = true := by rw [hb]; rfl
          clear hb
          go_wp2_with (rw [HVX.out])
          go_roundg (100 - (j + 1))
          case measure => omega
          case rel => exact ⟨j + 1, by rw [HFJ.out, if_pos HBX.out], by go_num, by omega, by omega, rfl⟩
        · have HBX := Lib.hid hb
          have hb1 : (b == -1) = false := by rw [beq_eq_false_iff_ne]; exact hb
          clear hb
          go_wp2_with (rw [HVX.out])
          go_roundg (100 - (j + 1))
          case measure => omega
          case rel => exact ⟨j + 1, by rw [HFJ.out, if_neg HBX.out, Int.add_zero], by go_num, by omega, by omega, rfl⟩
      · obtain rfl : j = 100 := by omega
        go_wp2
        go_ret2
        exact ⟨by rw [H0.out HK.out]; first | done | rfl, h1.trs HS2.out⟩
  · go_ret2
    exact ⟨by rw [H1.out HK.out]; first | done | rfl, h1.trs HS2.out⟩
end Go.Proofs.Ytdafiblnanpiiaa
