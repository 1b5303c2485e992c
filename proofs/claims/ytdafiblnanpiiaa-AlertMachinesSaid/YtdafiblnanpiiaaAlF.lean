/- Walks over package alert: the first stretch that is overfull. -/
import Derived.Test.YtdafiblnanpiiaaAlE
namespace Go.Proofs.Ytdafiblnanpiiaa
open Go.RowKit Go.Shelf
set_option linter.unusedSimpArgs false
set_option linter.unusedVariables false
attribute [local go_sem] Oper.semAt_some

def isOv (L : List (Int × Int × Int)) (p : Int × Int) : Bool := decide (p.2 - p.1 < dem L p.1 p.2)
def ovf (L : List (Int × Int × Int)) : Option (Int × Int) := strAll.find? (isOv L)
def ovT : Option (Int × Int) → Value
  | some p => .tuple #[.int .i64 p.1, .int .i64 p.2, .int .i64 0]
  | none => .tuple #[.int .i64 0, .int .i64 0, .int .i64 5]
def OverV (L : List (Int × Int × Int)) : Value := if vldT L then ovT (ovf L) else .tuple #[.int .i64 0, .int .i64 0, .int .i64 80]

/-- four boxes of one cell each, the last three not frozen -/
def C4 (b : Nat) (W : World) (s x y z : Value) : Prop :=
  b + 1 + 1 + 1 < W.heap.size ∧ W.cell? ⟨b, 0, none⟩ = some s ∧ W.cell? ⟨b + 1, 0, none⟩ = some x ∧ W.cell? ⟨b + 1 + 1, 0, none⟩ = some y ∧ W.cell? ⟨b + 1 + 1 + 1, 0, none⟩ = some z ∧
    W.frozen? ⟨b + 1, 0, none⟩ = false ∧ W.frozen? ⟨b + 1 + 1, 0, none⟩ = false ∧ W.frozen? ⟨b + 1 + 1 + 1, 0, none⟩ = false
theorem C4.new (w : World) (x0 x1 x2 x3 : Value) (t0 t1 t2 t3 : TypeId) : C4 w.heap.size ((((w.alloc (.cells #[x0] t0)).alloc (.cells #[x1] t1)).alloc (.cells #[x2] t2)).alloc (.cells #[x3] t3)) x0 x1 x2 x3 := by
  have b0 := Box.new w t0 #[x0]
  have b1 := Box.new (w.alloc (.cells #[x0] t0)) t1 #[x1]
  have b2 := Box.new ((w.alloc (.cells #[x0] t0)).alloc (.cells #[x1] t1)) t2 #[x2]
  have b3 := Box.new (((w.alloc (.cells #[x0] t0)).alloc (.cells #[x1] t1)).alloc (.cells #[x2] t2)) t3 #[x3]
  simp only [World.size_alloc] at b1 b2 b3
  exact ⟨by simp, (((b0.alloc _).alloc _).alloc _).cell 0, ((b1.alloc _).alloc _).cell 0, (b2.alloc _).cell 0, b3.cell 0, ((b1.alloc _).alloc _).frozen 0, (b2.alloc _).frozen 0, b3.frozen 0⟩
theorem C4.below (w : World) (x0 x1 x2 x3 : Value) (t0 t1 t2 t3 : TypeId) : Below w.heap.size w ((((w.alloc (.cells #[x0] t0)).alloc (.cells #[x1] t1)).alloc (.cells #[x2] t2)).alloc (.cells #[x3] t3)) :=
  (((below_alloc _ _).trs (below_alloc _ _)).trs (below_alloc _ _)).trs (below_alloc _ _)
theorem C4.on {b : Nat} {W W' : World} {s x y z : Value} (h : C4 b W s x y z) (hb : Below W.heap.size W W') : C4 b W' s x y z := by
  obtain ⟨h0, h1, h2, h3, h4, h5, h6, h7⟩ := h
  obtain ⟨k1, k2⟩ := bcell hb
  have := hb.size
  exact ⟨by omega, by rw [k1 _ _ (by omega)]; exact h1, by rw [k1 _ _ (by omega)]; exact h2, by rw [k1 _ _ (by omega)]; exact h3, by rw [k1 _ _ (by omega)]; exact h4, by rw [k2 _ _ (by omega)]; exact h5, by rw [k2 _ _ (by omega)]; exact h6, by rw [k2 _ _ (by omega)]; exact h7⟩
theorem C4.set3 {b : Nat} {W : World} {s x y z : Value} (h : C4 b W s x y z) (x' y' z' : Value) : C4 b (((W.setCell ⟨b + 1, 0, none⟩ x').setCell ⟨b + 1 + 1, 0, none⟩ y').setCell ⟨b + 1 + 1 + 1, 0, none⟩ z') s x' y' z' := by
  obtain ⟨h0, h1, h2, h3, h4, h5, h6, h7⟩ := h
  have n1 : ∀ {i j : Nat}, i ≠ j → (⟨i, 0, none⟩ : Addr) ≠ ⟨j, 0, none⟩ := fun hij e => hij (by injection e)
  have k2 : (W.setCell ⟨b + 1, 0, none⟩ x').cell? ⟨b + 1, 0, none⟩ = some x' := World.cell?_setCell_same' _ _ _ (by rw [h2]; rfl)
  have k3 : ((W.setCell ⟨b + 1, 0, none⟩ x').setCell ⟨b + 1 + 1, 0, none⟩ y').cell? ⟨b + 1 + 1, 0, none⟩ = some y' := World.cell?_setCell_same' _ _ _ (by rw [World.cell?_setCell_other _ _ _ _ (n1 (by omega)), h3]; rfl)
  have k4 : (((W.setCell ⟨b + 1, 0, none⟩ x').setCell ⟨b + 1 + 1, 0, none⟩ y').setCell ⟨b + 1 + 1 + 1, 0, none⟩ z').cell? ⟨b + 1 + 1 + 1, 0, none⟩ = some z' := World.cell?_setCell_same' _ _ _ (by rw [World.cell?_setCell_other _ _ _ _ (n1 (by omega)), World.cell?_setCell_other _ _ _ _ (n1 (by omega)), h4]; rfl)
  refine ⟨by simpa using h0, ?_, ?_, ?_, k4, by simpa using h5, by simpa using h6, by simpa using h7⟩
  · rw [World.cell?_setCell_other _ _ _ _ (n1 (by omega)), World.cell?_setCell_other _ _ _ _ (n1 (by omega)), World.cell?_setCell_other _ _ _ _ (n1 (by omega))]; exact h1
  · rw [World.cell?_setCell_other _ _ _ _ (n1 (by omega)), World.cell?_setCell_other _ _ _ _ (n1 (by omega))]; exact k2
  · rw [World.cell?_setCell_other _ _ _ _ (n1 (by omega))]; exact k3
theorem C4.set3_below {b B : Nat} {w W : World} (h : Below B w W) (hb : B ≤ b) (x' y' z' : Value) : Below B w (((W.setCell ⟨b + 1, 0, none⟩ x').setCell ⟨b + 1 + 1, 0, none⟩ y').setCell ⟨b + 1 + 1 + 1, 0, none⟩ z') :=
  ((h.setCell (p := ⟨b + 1, 0, none⟩) (by simp; omega) _).setCell (p := ⟨b + 1 + 1, 0, none⟩) (by simp; omega) _).setCell (p := ⟨b + 1 + 1 + 1, 0, none⟩) (by simp; omega) _
theorem C4.own (b : Nat) (s x y z : Value) {β : Type} : Own (fun (_ : β) W => C4 b W s x y z) := fun _ A B row hs hg hr => by
  obtain ⟨h0, h1, h2, h3, h4, h5, h6, h7⟩ := hs
  exact ⟨Nat.lt_of_lt_of_le h0 hg.size, cell_kept h1 hg hr, cell_kept h2 hg hr, cell_kept h3 hg hr, cell_kept h4 hg hr, (frozen_kept h2 hg hr).trans h5, (frozen_kept h3 hg hr).trans h6, (frozen_kept h4 hg hr).trans h7⟩

set_option maxRecDepth 100000 in
set_option maxHeartbeats 4000000 in
theorem Overfull_any (A : Option Addr) (c : Nat) (L : List (Int × Int × Int)) (w : World) (hr : RdT w w.heap.size A L) (hl : L.length ≤ 1125899906842624) :
    Calls Try.prog 20 #[.slice A L.length c] w fun e w' => e = .returned (OverV L) ∧ Below w.heap.size w w' := by
  have hC4 := Lib.hid (C4.new w (.slice A L.length c) (.int .i64 0) (.int .i64 0) (.int .i64 0) 22 3 3 25)
  have hB0 := C4.below w (.slice A L.length c) (.int .i64 0) (.int .i64 0) (.int .i64 0) 22 3 3 25
  have e0 := hC4.out.2.1
  have HV := Lib.hid (Valid_any A c L _ (hr.on hB0) hl)
  have HD := Lib.hid (fun (hv : vldT L = true) (x y : Int) W (hW : Below w.heap.size w W) => demand_any A c L x y W (hr.on hW) (okT_of hv))
  have HBD := Lib.hid (fun (hv : vldT L = true) x y => dem_bd (okT_of hv) x y)
  have HN : Hid (vldT L = false → OverV L = .tuple #[.int .i64 0, .int .i64 0, .int .i64 80]) := Lib.hid (fun h => by unfold OverV; rw [h]; rfl)
  have HM : Hid (vldT L = true → strAll.find? (isOv L) = none → OverV L = .tuple #[.int .i64 0, .int .i64 0, .int .i64 5]) := Lib.hid (fun h h2 => by unfold OverV ovf; rw [h, h2]; rfl)
  have HY : Hid (∀ x y, vldT L = true → strAll.find? (isOv L) = some (x, y) → OverV L = .tuple #[.int .i64 x, .int .i64 y, .int .i64 0]) := Lib.hid (fun x y h h2 => by unfold OverV ovf; rw [h, h2]; rfl)
  have HI : Hid (∀ x y, isOv L (x, y) = decide (y - x < dem L x y)) := Lib.hid (fun x y => rfl)
  clear hr
  generalize OverV L = V at *
  generalize isOv L = iso at *
  generalize dem L = dm at *
  generalize L.length = n at *
  cases hv : vldT L <;> rw [hv] at HV
  · have HV2 := Lib.hid hv; clear hv HD HBD
    refine (callsIn_wide (n := 3)).1 ?_
    refine callsIn_of_wp_marks Try.func20 rfl trivial ?_ rfl
    simp only [Try.ntmps20, List.size_toArray, List.length_cons, List.length_nil, Nat.reduceAdd, Nat.reduceSub, Array.replicate_succ, Array.replicate_zero, List.push_toArray, List.append_toArray, List.nil_append, List.cons_append]
    gi_wp2_with (refine ⟨trivial, ?_⟩; gi_at_call 49; refine (callsIn_wide.2 HV.out).mono ?_; rintro e w1 ⟨rfl, hB⟩; obtain ⟨z0, d0, d1, d2, d3, g1, g2, g3⟩ := hC4.out.on hB)
    obtain ⟨_, k1, k2, k3, k4, _⟩ := (hC4.out.on hB).set3 (.int .i64 0) (.int .i64 0) (.int .i64 80)
    refine ⟨.tuple #[.int .i64 0, .int .i64 0, .int .i64 80], by simp [results, Try.results20, go_sem, k2, k3, k4], by rw [HN.out HV2.out], C4.set3_below (hB0.trs hB) (Nat.le_refl _) _ _ _⟩
  · have HV2 := Lib.hid hv
    have HD2 := Lib.hid (HD.out hv)
    have HBD2 := Lib.hid (HBD.out hv)
    clear hv HD HBD
    refine (callsIn_wide (n := 3)).1 ?_
    refine callsIn_of_wp_marks Try.func20 rfl trivial ?_ rfl
    simp only [Try.ntmps20, List.size_toArray, List.length_cons, List.length_nil, Nat.reduceAdd, Nat.reduceSub, Array.replicate_succ, Array.replicate_zero, List.push_toArray, List.append_toArray, List.nil_append, List.cons_append]
    gi_wp2_with (refine ⟨trivial, ?_⟩; gi_at_call 49; refine (callsIn_wide.2 HV.out).mono ?_; rintro e w1 ⟨rfl, hB⟩)
    have hC1 := hC4.out.on hB
    have hB1 := hB0.trs hB
    have hz1 := hC1.1
    refine wpIn_rangeFunc_ownF rfl (by omega) (gf := 61) (lb := #[]) rfl trivial (enters_of Try.func61 (by kernel_rfl) rfl)
      (stretches_stops Fence.wide _ trivial rfl (by omega) _) (fun _ _ => trivial) (fun _ _ _ _ _ _ _ _ => trivial) (Below.refl _ _) (fun _ => rfl)
      (fun pre W => ((∀ y ∈ pre, iso y.1 = false) ∧ C4 w.heap.size W (.slice A n c) (.int .i64 0) (.int .i64 0) (.int .i64 0)) ∧ Below w.heap.size w W)
      (fun cc pre W => (cc = .ret ∧ ∃ pre' x, pre = pre' ++ [x] ∧ (∀ y ∈ pre', iso y.1 = false) ∧ iso x.1 = true ∧ C4 w.heap.size W (.slice A n c) (.int .i64 x.1.1) (.int .i64 x.1.2) (.int .i64 0)) ∧ Below w.heap.size w W)
      (OwnFrom.and (Own.from (fun s A' B' row hs hg hr => ⟨hs.1, C4.own (β := Unit) _ _ _ _ _ () A' B' row hs.2 hg hr⟩) _) (ownFrom_below (Nat.le_refl _) (by omega)))
      (fun cc => OwnFrom.and (Own.from (fun s A' B' row hs hg hr => by
        obtain ⟨q1, p', x, q2, q3, q4, q5⟩ := hs
        exact ⟨q1, p', x, q2, q3, q4, C4.own (β := Unit) _ _ _ _ _ () A' B' row q5 hg hr⟩) _) (ownFrom_below (Nat.le_refl _) (by omega)))
      ⟨⟨by simp, hC1⟩, hB1⟩
      (fun x => { tmps := #[.slice A n c, .pointer (some ⟨w.heap.size, 0, none⟩), .pointer (some ⟨w.heap.size + 1, 0, none⟩), .pointer (some ⟨w.heap.size + 1 + 1, 0, none⟩), .pointer (some ⟨w.heap.size + 1 + 1 + 1, 0, none⟩), .int .i64 x.1.1, .int .i64 x.1.2, .slice A n c, .bool true, .bool false, .int .i64 x.1.1, .int .i64 x.1.2, undef, undef, undef, undef, undef, undef, undef, undef, undef, undef], defers := [] }) ?assign ?body ?done ?stop
    case assign =>
      intro l x W K hK
      gi_wp2
      exact hK
    case body =>
      rintro l pre x W ⟨⟨hp, hC⟩, hB⟩ _
      obtain ⟨⟨a, b⟩, hx⟩ := x
      have hbd : 0 ≤ a ∧ a < b ∧ b ≤ 100 := mem_strAll.1 hx
      have hdb := HBD2.out a b
      have HD3 := Lib.hid (fun W hW => HD2.out a b W hW)
      have HIX := Lib.hid (HI.out a b)
      have HC := Lib.hid hC
      have HP := Lib.hid hp
      obtain ⟨z0, d0, d1, d2, d3, g1, g2, g3⟩ := hC
      clear hp
      generalize dm a b = d at *
      dsimp only
      have w1 : IntKind.i64.wrap (b - a) = b - a := IntWalk.i64_in _ (by omega)
      by_cases hov : b - a < d
      · have hdd : decide (b - a < d) = true := by simpa using hov
        have HDD := Lib.hid hdd
        gi_wp2_with (refine ⟨trivial, ?_⟩; gi_at_call 56; refine (CallsIn.inRound l (callsIn_wide.2 (HD3.out _ hB))).mono ?_; rintro e w2 ⟨rfl, hB2⟩; obtain ⟨z0', d0', d1', d2', d3', g1', g2', g3'⟩ := HC.out.on hB2)
        exact ⟨(keepsOthers_of_below hB2).trans (((KeepsOthers.setCell _ _ _).trans (KeepsOthers.setCell _ _ _)).trans (KeepsOthers.setCell _ _ _)), ⟨rfl, pre, ⟨(a, b), hx⟩, rfl, HP.out, by rw [HIX.out]; exact HDD.out, (HC.out.on hB2).set3 _ _ _⟩, C4.set3_below (hB.trs hB2) (Nat.le_refl _) _ _ _⟩
      · have hdd : decide (b - a < d) = false := by simpa using hov
        have HDD := Lib.hid hdd
        gi_wp2_with (refine ⟨trivial, ?_⟩; gi_at_call 56; refine (CallsIn.inRound l (callsIn_wide.2 (HD3.out _ hB))).mono ?_; rintro e w2 ⟨rfl, hB2⟩)
        exact ⟨keepsOthers_of_below hB2, trivial, ⟨fun y hy => (List.mem_append.1 hy).elim (HP.out y) (fun h => by rw [List.mem_singleton] at h; subst h; rw [HIX.out]; exact HDD.out), HC.out.on hB2⟩, hB.trs hB2⟩
    case done =>
      rintro D ys W hD hys ⟨⟨hp, hC⟩, hB⟩ hK
      have HC := Lib.hid hC
      have HP := Lib.hid hp
      obtain ⟨z0, d0, d1, d2, d3, g1, g2, g3⟩ := hC
      clear hp
      gi_wp2
      have hk3 := ((KeepsOthers.setCell W ⟨w.heap.size + 1, 0, none⟩ (.int .i64 0)).trans (KeepsOthers.setCell _ ⟨w.heap.size + 1 + 1, 0, none⟩ (.int .i64 0))).trans (KeepsOthers.setCell _ ⟨w.heap.size + 1 + 1 + 1, 0, none⟩ (.int .i64 5))
      have hK' := hk3.same D _ hK rfl
      refine ⟨by simp, .inl ⟨_, _, rfl, run_takeDeferred hK', ?_⟩⟩
      obtain ⟨_, k1, k2, k3, k4, _⟩ := C4.own (β := Unit) _ _ _ _ _ () _ _ _ (HC.out.set3 (.int .i64 0) (.int .i64 0) (.int .i64 5)) (grownBy_putObj' _ D (.deferred none)) (fun r e => by cases e; exact ⟨_, hK', rfl⟩)
      refine ⟨.tuple #[.int .i64 0, .int .i64 0, .int .i64 5], by simp [results, Try.results20, go_sem, k2, k3, k4], ?_, ?_⟩
      · rw [HM.out HV2.out]
        refine find_miss fun y hy => ?_
        rw [← hys, List.mem_map] at hy
        obtain ⟨z, hz, rfl⟩ := hy
        exact HP.out z hz
      · exact (C4.set3_below hB (Nat.le_refl _) _ _ _).trans (belowK_b (w := w) (Nat.le_refl _) _ D _ _ (by omega) hK' rfl rfl)
    case stop =>
      rintro D cc pre W hD hpre ⟨⟨rfl, p', x, rfl, hp, hx, hC⟩, hB⟩ hK
      gi_wp2
      refine ⟨by simp, .inl ⟨_, _, rfl, run_takeDeferred hK, ?_⟩⟩
      obtain ⟨_, k1, k2, k3, k4, _⟩ := C4.own (β := Unit) _ _ _ _ _ () _ _ _ hC (grownBy_putObj' _ D (.deferred none)) (fun r e => by cases e; exact ⟨_, hK, rfl⟩)
      refine ⟨.tuple #[.int .i64 x.1.1, .int .i64 x.1.2, .int .i64 0], by simp [results, Try.results20, go_sem, k2, k3, k4], ?_, ?_⟩
      · rw [HY.out x.1.1 x.1.2 HV2.out]
        refine find_hit (pre := p'.map (fun x => x.1)) ?_ (fun y hy => ?_) hx
        · have := hpre
          rw [List.map_append] at this
          exact this
        · rw [List.mem_map] at hy
          obtain ⟨z, hz, rfl⟩ := hy
          exact hp z hz
      · exact hB.trans (belowK_b (w := w) (Nat.le_refl _) W D _ _ (by omega) hK rfl rfl)
end Go.Proofs.Ytdafiblnanpiiaa
