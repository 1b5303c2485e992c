/- Walks over alert: whether several machines do all; Several; Machines. -/
import Derived.Test.YtdafiblnanpiiaaAlFi
import Derived.Outline
namespace Go.Proofs.Ytdafiblnanpiiaa
open Go.RowKit
set_option linter.unusedSimpArgs false
set_option linter.unusedVariables false

theorem zeroTried : Try.zeroCells92 = ((List.replicate 100 false).map Value.bool).toArray := by kernel_rfl
theorem zeroHall : Try.zeroCells89 = (Value.slice none 0 0 :: .int .i64 0 :: List.replicate 100 (Value.map none)).toArray := by kernel_rfl
/-- the hall while its maps are made -/
structure HallI (A : Option Addr) (n c : Nat) (K : Int) (hb : Nat) (q : Nat) (W : World) : Prop where
  cT : W.cell? ⟨hb, 0, none⟩ = some (.slice A n c)
  cK : W.cell? ⟨hb, 1, none⟩ = some (.int .i64 K)
  cV : ∀ m, m < 100 → ∃ v, W.cell? ⟨hb, 2 + m, none⟩ = some v
  fr : ∀ o, W.frozen? ⟨hb, o, none⟩ = false
  cM : ∀ m, m < q → W.cell? ⟨hb, 2 + m, none⟩ = some (.map (some (hb + 1 + m)))
  mp : ∀ m, m < q → MapS W (hb + 1 + m) n (fun _ => false)
  sz : W.heap.size = hb + 1 + q
theorem hall_at (N m : Nat) (hm : m < N) (a b x y : Value) : (((a :: b :: List.replicate N (Value.map none)).toArray.setIfInBounds 0 x).setIfInBounds 1 y)[2 + m]? = some (.map none) := by
  rw [show 2 + m = m + 1 + 1 by omega]; simp [hm]
theorem tried_at (N m : Nat) (hm : m < N) : (((List.replicate N false).map Value.bool).toArray)[m]? = some (.bool false) := by simp [hm]
theorem sm_false (n : Nat) : sm n (fun _ => bI false) = 0 := by
  induction n with
  | zero => rfl
  | succ n ih => simp only [sm, ih]; rfl
theorem HallI.start (w : World) (A : Option Addr) (n c : Nat) (K : Int) : HallI A n c K w.heap.size 0 (w.alloc (.cells ((Try.zeroCells89.setIfInBounds 0 (.slice A n c)).setIfInBounds 1 (.int .i64 K)) 89)) := by
  have hbx := Box.new w 89 ((Try.zeroCells89.setIfInBounds 0 (.slice A n c)).setIfInBounds 1 (.int .i64 K))
  rw [zeroHall] at hbx ⊢
  refine ⟨by rw [hbx.cell]; simp, by rw [hbx.cell]; simp, fun m hm => ⟨.map none, ?_⟩, fun o => hbx.frozen o, fun m hm => by omega, fun m hm => by omega, by simp⟩
  rw [hbx.cell]; exact hall_at 100 m hm _ _ _ _
theorem HallI.step {A : Option Addr} {n c : Nat} {K : Int} {hb q : Nat} {W : World} (h : HallI A n c K hb q W) (hq : q < 100) : HallI A n c K hb (q + 1) ((W.alloc (.map #[] 0)).setCell ⟨hb, 2 + q, none⟩ (.map (some W.heap.size))) := by
  have hlt : hb < W.heap.size := World.block_lt_of_cell? _ _ h.cT
  have hB := below_alloc W (.map #[] 0)
  have hc : ∀ o, (W.alloc (.map #[] 0)).cell? ⟨hb, o, none⟩ = W.cell? ⟨hb, o, none⟩ := fun o => hB.cell (p := ⟨hb, o, none⟩) hlt
  have hs : ∀ o, o ≠ 2 + q → ((W.alloc (.map #[] 0)).setCell ⟨hb, 2 + q, none⟩ (.map (some W.heap.size))).cell? ⟨hb, o, none⟩ = W.cell? ⟨hb, o, none⟩ := fun o ho => by
    rw [World.cell?_setCell_other _ _ _ _ (by intro e; injection e; omega)]; exact hc o
  have hv : ((W.alloc (.map #[] 0)).setCell ⟨hb, 2 + q, none⟩ (.map (some W.heap.size))).cell? ⟨hb, 2 + q, none⟩ = some (.map (some W.heap.size)) := by
    obtain ⟨v, hv⟩ := h.cV q hq
    exact World.cell?_setCell_same' _ _ _ (by rw [hc, hv]; rfl)
  refine ⟨(hs 0 (by omega)).trans h.cT, (hs 1 (by omega)).trans h.cK, fun m hm => ?_, fun o => ?_, fun m hm => ?_, fun m hm => ?_, ?_⟩
  · by_cases e : m = q
    · subst e; exact ⟨_, hv⟩
    · rw [hs _ (by omega)]; exact h.cV m hm
  · rw [World.frozen?_setCell]; exact (hB.frozen (p := ⟨hb, o, none⟩) hlt).trans (h.fr o)
  · by_cases e : m = q
    · subst e; rw [hv, h.sz]
    · rw [hs _ (by omega)]; exact h.cM m (by omega)
  · by_cases e : m = q
    · subst e
      rw [← h.sz]
      exact (MapS.made W n).setCell (by show W.heap.size ≠ hb; omega) _
    · exact ((h.mp m (by omega)).keep hB (by have := h.sz; omega)).setCell (by show hb + 1 + m ≠ hb; omega) _
  · have := h.sz; simp; omega
theorem HallI.step' {A : Option Addr} {n c : Nat} {K : Int} {hb q : Nat} {W : World} (h : HallI A n c K hb q W) (hq : q < 100) : HallI A n c K hb (q + 1) ((W.setCell ⟨hb, 2 + q, none⟩ (.map (some W.heap.size))).alloc (.map #[] 0)) := by
  have hlt : hb < W.heap.size := World.block_lt_of_cell? _ _ h.cT
  have := h.step hq
  rwa [World.setCell_alloc_past _ _ _ _ hlt] at this
theorem HallI.done {A : Option Addr} {n c : Nat} {K : Int} {hb : Nat} {W : World} (h : HallI A n c K hb 100 W) : HallR A n c K hb (fun m => hb + 1 + m) (fun _ _ => false) W := ⟨h.cT, h.cK, h.cM, h.mp⟩
theorem TrR.new (W : World) : TrR W.heap.size (fun _ => false) (W.alloc (.cells Try.zeroCells92 92)) := by
  have hbx := Box.new W 92 Try.zeroCells92
  refine ⟨fun m hm => ?_, fun m _ => hbx.frozen m⟩
  rw [hbx.cell, zeroTried]; exact tried_at 100 m hm
theorem HallR.on {A : Option Addr} {n c : Nat} {K : Int} {hb : Nat} {R : Nat → Nat} {H : Nat → Nat → Bool} {W W' : World} (h : HallR A n c K hb R H W) (hB : Below W.heap.size W W') : HallR A n c K hb R H W' :=
  ⟨(hB.cell (p := ⟨hb, 0, none⟩) h.lt).trans h.cT, (hB.cell (p := ⟨hb, 1, none⟩) h.lt).trans h.cK, fun m hm => (hB.cell (p := ⟨hb, 2 + m, none⟩) h.lt).trans (h.cM m hm), fun m hm => (h.mp m hm).keep hB (h.mp m hm).lt⟩
theorem asg_none (L : List (Int × Int × Int)) {K : Int} (hK : 1 ≤ K) : Asg L K (fun _ _ => false) :=
  ⟨(fun i m h => (by cases h)), fun m hm => Int.le_trans (Int.le_of_eq (sm_false L.length)) (by omega)⟩
theorem row_none (j : Nat) : rowS (fun _ _ => false) j = 0 := sm_false 100
/-- the rows when r minutes of task i are found -/
def rowT (L : List (Int × Int × Int)) (i : Nat) (r : Int) (j : Nat) : Int := if j < i then tc L j else if j = i then r else 0
theorem rowT_next (L : List (Int × Int × Int)) (i j : Nat) : rowT L i (tc L i) j = rowT L (i + 1) 0 j := by
  unfold rowT
  by_cases h1 : j < i
  · rw [if_pos h1, if_pos (by omega)]
  · rw [if_neg h1]
    by_cases h2 : j = i
    · rw [if_pos h2, if_pos (by omega), h2]
    · rw [if_neg h2, if_neg (by omega)]
      split <;> rfl
theorem rowT_add (L : List (Int × Int × Int)) (i : Nat) (r : Int) (j : Nat) : rowT L i r j + (if j = i then 1 else 0) = rowT L i (r + 1) j := by
  unfold rowT
  by_cases h1 : j < i
  · rw [if_pos h1, if_pos h1, if_neg (by omega)]; omega
  · rw [if_neg h1, if_neg h1]; split <;> omega
theorem rowT_le {L : List (Int × Int × Int)} (hok : okT L) {i : Nat} {r : Int} (hi : i < L.length) (hr : r ≤ tc L i) (j : Nat) (hj : j < L.length) : rowT L i r j ≤ tc L j := by
  have := hok.2 j hj
  unfold rowT
  by_cases h1 : j < i
  · rw [if_pos h1]; exact Int.le_refl _
  · rw [if_neg h1]
    by_cases h2 : j = i
    · rw [if_pos h2, h2]; exact hr
    · rw [if_neg h2]; omega

set_option maxRecDepth 100000 in
set_option maxHeartbeats 16000000 in
theorem several_any (A : Option Addr) (c : Nat) (L : List (Int × Int × Int)) (K : Int) (w : World) (hr : RdT w w.heap.size A L) (hok : okT L) (hK : 1 ≤ K ∧ K ≤ 4) :
    Calls Try.prog 71 #[.slice A L.length c, .int .i64 K] w fun e w' => e = .returned (.bool (sevB L K)) ∧ Below w.heap.size w w' := by
  have HR := Lib.hid hr
  have HOK := Lib.hid hok
  have hn12 := hok.1.2
  have hmm := @run_makeMap Try.prog
  have HFI := Lib.hid (fun tb hRm i H W hi hA hB hH hT => find_any w A c L K w.heap.size tb (fun m => w.heap.size + 1 + m) hr hok hK hRm 100 i H (fun _ => false) W hi (leftT_bd _).2 hA hB hH hT)
  unfold FindQ at HFI
  have HRL := Lib.hid (fun i r hi hr j hj => rowT_le (L := L) hok (i := i) (r := r) hi hr j hj)
  have HYE : Hid ((∃ H, Asg L K H ∧ ∀ j, j < L.length → rowS H j = rowT L L.length 0 j) → sevB L K = true) := Lib.hid (fun ⟨H, h1, h2⟩ => sevB_iff.2 ⟨H, h1, fun j hj => by rw [h2 j hj]; unfold rowT; rw [if_pos hj]⟩)
  have HNO := Lib.hid (fun H T i h1 hi h2 h3 h4 => sevB_no.2 (search_fail (L := L) (k := K) (H := H) (T := T) (i := i) h1 hi h2 h3 h4))
  have HS0 := Lib.hid (HallI.start w A L.length c K)
  have HB0 := Lib.hid (below_alloc w (.cells ((Try.zeroCells89.setIfInBounds 0 (.slice A L.length c)).setIfInBounds 1 (.int .i64 K)) 89))
  have HA0 := Lib.hid (asg_none L hK.1)
  clear hr hok
  generalize sevB L K = sv at *
  go_enter Try.func71, Try.ntmps71
  go_wp2
  generalize w.alloc (.cells ((Try.zeroCells89.setIfInBounds 0 (.slice A L.length c)).setIfInBounds 1 (.int .i64 K)) 89) = W0 at *
  go_loopg [6, 13] 100 (fun k x6 t wr => ∃ q : Nat, t = .int .i64 q ∧ q ≤ 100 ∧ 100 - q ≤ k ∧ Below w.heap.size w wr ∧ HallI A L.length c K w.heap.size q wr)
  case atStart => exact ⟨0, rfl, by omega, by omega, HB0.out, HS0.out⟩
  case round =>
    obtain ⟨q, rfl, hq, hk, hB, hI⟩ := hrel
    by_cases hlq : q < 100
    · have hdq : decide ((q : Int) < 100) = true := by rw [decide_eq_true_eq]; omega
      obtain ⟨v, cv⟩ := hI.cV q hlq
      have fv := hI.fr (2 + q)
      have HI := Lib.hid (And.intro hB hI)
      have hlt : w.heap.size < wr.heap.size := World.block_lt_of_cell? _ _ cv
      clear hI hB
      go_wp2
      go_roundg (100 - (q + 1))
      case measure => omega
      case rel => exact ⟨q + 1, by go_num, by omega, by omega, (HI.out.1.setCell (p := ⟨w.heap.size, 2 + q, none⟩) (Nat.le_refl _) _).alloc (by simp; omega) _, HI.out.2.step' hlq⟩
    · obtain rfl : q = 100 := by omega
      have HH := Lib.hid hI.done
      have HB := Lib.hid hB
      clear hI hB
      go_wp2
      go_loopg [7, 8, 25, 32] L.length (fun k x7 x8 t x32 wi => ∃ (i : Nat) (H : Nat → Nat → Bool), t = .int .i64 i ∧ i ≤ L.length ∧ L.length - i ≤ k ∧ Below w.heap.size w wi ∧ HallR A L.length c K w.heap.size (fun m => w.heap.size + 1 + m) H wi ∧ Aside (Asg L K H ∧ ∀ j, j < L.length → rowS H j = rowT L i 0 j))
      case atStart => exact ⟨0, _, rfl, by omega, by omega, HB.out, HH.out, (⟨HA0.out, fun j _ => by rw [row_none]; unfold rowT; rw [if_neg (by omega)]; split <;> rfl⟩ : Asg L K (fun _ _ => false) ∧ ∀ j, j < L.length → rowS (fun _ _ => false) j = rowT L 0 0 j)⟩
      case round =>
        obtain ⟨i, H, rfl, hi, hki, hB, hH, HA⟩ := hrel
        by_cases hlt : i < L.length
        · obtain ⟨bb, o, rfl, hbb, c1, c2, c3⟩ := HR.out.at_ (k := i) hlt
          rw [← hB.cell hbb] at c1 c2 c3
          have hoki := HOK.out.2 i hlt
          have HX := Lib.hid (And.intro hB hH)
          have hz0 : 1 ≤ tc L i := by omega
          have hz1 : tc L i ≤ 100 := by omega
          have HI := Lib.hid hlt
          have HKI := Lib.hid hki
          have HBX := Lib.hid (Box.new wr 36 #[.int .i64 (ta L i), .int .i64 (tb L i), .int .i64 (tc L i)])
          have HZ : Hid (∃ z : Int, z = tc L i) := Lib.hid ⟨_, rfl⟩
          obtain ⟨z, hz⟩ := HZ.out
          rw [← hz] at hz0 hz1 c3
          have HZE := Lib.hid hz
          rw [← hz] at HBX
          clear hB hH hoki HZ hz
          generalize ta L i = x at *
          generalize tb L i = y at *
          go_wp2
          go_loopg [32] 100 (fun k t wi => ∃ (r : Nat) (H : Nat → Nat → Bool), t = .int .i64 r ∧ (r : Int) ≤ z ∧ 100 - r ≤ k ∧ Below w.heap.size w wi ∧ HallR (some ⟨bb, o, none⟩) L.length c K w.heap.size (fun m => w.heap.size + 1 + m) H wi ∧ Aside (Asg L K H ∧ ∀ j, j < L.length → rowS H j = rowT L i r j))
          case atStart => exact ⟨0, H, rfl, by omega, by omega, HX.out.1.trs (below_alloc _ _), HX.out.2.on (below_alloc _ _), (HA.out : Asg L K H ∧ ∀ j, j < L.length → rowS H j = rowT L i 0 j)⟩
          case round =>
            obtain ⟨r, H2, rfl, hr, hkr, hB, hH, HA2⟩ := hrel
            by_cases hlr : (r : Int) < z
            · have hlr2 : decide ((r : Int) < z) = true := by rw [decide_eq_true_eq]; exact hlr
              have hRm : Rooms w.heap.size w.heap.size wr.heap.size (fun m => w.heap.size + 1 + m) := by
                have hl1 := hH.lt
                refine ⟨fun m m' h1 h2 h3 => by omega, fun m hm => by show w.heap.size + 1 + m ≠ _; omega, fun m hm => ?_, by omega, Nat.le_refl _, by omega, fun m hm => by show _ ≤ w.heap.size + 1 + m; omega⟩
                have := (hH.mp m hm).lt
                show w.heap.size + 1 + m ≠ _
                omega
              have HF := Lib.hid (HFI.out wr.heap.size hRm i H2 (wr.alloc (.cells Try.zeroCells92 92)) HI.out HA2.out.1 (hB.trs (below_alloc _ _)) (hH.on (below_alloc _ _)) (TrR.new wr))
              have HLR := Lib.hid hlr
              clear hRm hB hH hlr
              go_wp2_with (go_at_call 90; refine HF.out.mono ?_; rintro e w5 ⟨hB5, H5, T5, hH5, hT5, hm5, ⟨rfl, hf5⟩ | ⟨rfl, he5, ht5, hc5⟩⟩)
              · have HR5 := Lib.hid (And.intro hB5 (And.intro hH5 (And.intro hf5.asg (fun j (hj : j < L.length) => (hf5.row j).trans (show rowS H2 j + _ = rowT L i ((r + 1 : Nat) : Int) j by rw [HA2.out.2 j hj, rowT_add]; push_cast; rfl)))))
                clear hB5 hH5 hT5 hm5 hf5
                go_roundg (100 - (r + 1))
                case measure => have := HLR.out; omega
                case rel => exact ⟨r + 1, H5, by go_num, by have := HLR.out; omega, by omega, HR5.out.1, HR5.out.2.1, (HR5.out.2.2 : Asg L K H5 ∧ ∀ j, j < L.length → rowS H5 j = rowT L i ((r + 1 : Nat) : Int) j)⟩
              · have HN := Lib.hid (HNO.out H2 T5 i (fun j hj => by rw [HA2.out.2 j hj]; exact HRL.out i r HI.out (by rw [← HZE.out]; exact hr) j hj) HI.out (by rw [HA2.out.2 i HI.out]; unfold rowT; rw [if_neg (by omega), if_pos rfl, ← HZE.out]; exact HLR.out) ht5 hc5)
                clear ht5 hc5 he5
                go_ret
                exact ⟨ret_bool HN.out.symm, hB5⟩
            · have hlr2 : decide ((r : Int) < z) = false := by rw [decide_eq_false_iff_not]; exact hlr
              have hrz : (r : Int) = z := by omega
              have HR6 := Lib.hid (And.intro hB (And.intro hH (And.intro HA2.out.1 (fun j (hj : j < L.length) => (show rowS H2 j = rowT L (i + 1) 0 j by rw [HA2.out.2 j hj, hrz, HZE.out, rowT_next])))))
              clear hB hH hlr hrz
              go_wp2
              go_roundg (L.length - (i + 1))
              case measure => have := HKI.out; have := HI.out; omega
              case rel => exact ⟨i + 1, H2, by go_num, by have := HI.out; omega, by omega, HR6.out.1, HR6.out.2.1, (HR6.out.2.2 : Asg L K H2 ∧ ∀ j, j < L.length → rowS H2 j = rowT L (i + 1) 0 j)⟩
        · obtain rfl : i = L.length := by omega
          have HE := Lib.hid (HYE.out ⟨H, HA.out⟩)
          have HB2 := Lib.hid hB
          clear hB hH
          go_wp2
          go_ret
          exact ⟨ret_bool HE.out.symm, HB2.out⟩
end Go.Proofs.Ytdafiblnanpiiaa
