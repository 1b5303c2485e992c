/- Walks over package alert: the slack. -/
import Derived.Test.YtdafiblnanpiiaaAlC
import Derived.Test.YtdafiblnanpiiaaLibR
import Derived.Outline
namespace Go.Proofs.Ytdafiblnanpiiaa
open Go.RowKit Go.Shelf
set_option linter.unusedSimpArgs false
set_option linter.unusedVariables false
attribute [local go_sem] Oper.semAt_some

/-- the least that a stretch of a list has more than its demand -/
def slkF (L : List (Int × Int × Int)) (l : List (Int × Int)) : Int := l.foldl (fun m p => min m (p.2 - p.1 - dem L p.1 p.2)) 100
def slk (L : List (Int × Int × Int)) : Int := slkF L strAll
theorem slkF_snoc (L : List (Int × Int × Int)) (l : List (Int × Int)) (x : Int × Int) : slkF L (l ++ [x]) = min (slkF L l) (x.2 - x.1 - dem L x.1 x.2) := by simp [slkF]
theorem slkF_bd {L : List (Int × Int × Int)} (h : okT L) (l : List (Int × Int)) (hl : ∀ x ∈ l, x ∈ strAll) : -1200 ≤ slkF L l ∧ slkF L l ≤ 100 := by
  obtain ⟨r, rfl⟩ : ∃ r, l = r.reverse := ⟨l.reverse, by simp⟩
  induction r with
  | nil => simp [slkF]
  | cons x r ih =>
    rw [List.reverse_cons, slkF_snoc]
    have h1 := ih (fun y hy => hl y (by rw [List.reverse_cons]; exact List.mem_append_left _ hy))
    have h2 := dem_bd h x.1 x.2
    have h3 := mem_strAll.1 (hl x (by simp))
    simp only [Int.min_def]; split <;> omega

set_option maxRecDepth 100000 in
set_option maxHeartbeats 2000000 in
theorem Slack1_any (A : Option Addr) (c b0 : Nat) (L : List (Int × Int × Int)) (w : World) (hr : RdT w w.heap.size A L) (hok : okT L) (hb : w.cell? ⟨b0, 0, none⟩ = some (.slice A L.length c)) :
    Calls Try.prog 60 #[.pointer (some ⟨b0, 0, none⟩)] w fun e w' => e = .returned (.int .i64 (slk L)) ∧ Below w.heap.size w w' := by
  have hlt : b0 < w.heap.size := World.block_lt_of_cell? _ _ hb
  have HD := Lib.hid (fun (x y : Int) W (hW : Below w.heap.size w W) => demand_any A c L x y W (hr.on hW) hok)
  have HBD := Lib.hid (fun x y => dem_bd hok x y)
  have HSB := Lib.hid (fun l => slkF_bd hok l)
  have HSN := Lib.hid (slkF_snoc L)
  have HS : Hid (slk L = slkF L strAll) := Lib.hid rfl
  clear hr hok
  generalize slk L = sl at *
  have HN := Lib.hid (show slkF L [] = 100 from rfl)
  generalize slkF L = sf at *
  generalize dem L = dm at *
  generalize L.length = n at *
  refine (callsIn_wide (n := 3)).1 ?_
  refine callsIn_of_wp_marks Try.func60 rfl trivial ?_ rfl
  simp only [Try.ntmps60, List.size_toArray, List.length_cons, List.length_nil, Nat.reduceAdd, Nat.reduceSub, Array.replicate_succ, Array.replicate_zero, List.push_toArray, List.append_toArray, List.nil_append, List.cons_append]
  gi_wp2
  have hs := And.intro ((Box.new w 3 #[.int .i64 100]).cell 0) ((Box.new w 3 #[.int .i64 100]).frozen 0)
  have hB0 := below_alloc w (.cells #[.int .i64 100] 3)
  refine wpIn_rangeFunc_ownF rfl (by omega) (gf := 61) (lb := #[]) rfl trivial (enters_of Try.func61 (by kernel_rfl) rfl)
    (stretches_stops Fence.wide _ trivial rfl (by omega) _) (fun _ _ => trivial) (fun _ _ _ _ _ _ _ _ => trivial) (Below.refl _ _) (fun _ => rfl)
    (fun pre W => (W.cell? ⟨w.heap.size, 0, none⟩ = some (.int .i64 (sf (pre.map (fun x => x.1)))) ∧ W.frozen? ⟨w.heap.size, 0, none⟩ = false) ∧ Below w.heap.size w W)
    (fun _ _ _ => False)
    (OwnFrom.and (Own.from (fun s A B row hs hg hr => ⟨cell_kept hs.1 hg hr, (frozen_kept hs.1 hg hr).trans hs.2⟩) _) (ownFrom_below (Nat.le_refl _) (by simp)))
    (fun _ _ _ _ _ hs _ _ => hs)
    ⟨⟨by rw [List.map_nil, HN.out]; exact hs.1, hs.2⟩, hB0⟩
    (fun x => { tmps := #[.pointer (some ⟨b0, 0, none⟩), .int .i64 0, .pointer (some ⟨w.heap.size, 0, none⟩), .int .i64 x.1.1, .int .i64 x.1.2, .int .i64 x.1.1, .int .i64 x.1.2, undef, undef, undef, undef, undef, undef, undef, undef, undef, undef, undef], defers := [] }) ?assign ?body ?done ?stop
  case assign =>
    intro l x W K hK
    gi_wp2
    exact hK
  case body =>
    rintro l pre x W ⟨⟨hc, hf⟩, hB⟩ _
    obtain ⟨⟨a, b⟩, hx⟩ := x
    have hbd : 0 ≤ a ∧ a < b ∧ b ≤ 100 := mem_strAll.1 hx
    have hdb := HBD.out a b
    have hsb := HSB.out (pre.map (fun x => x.1)) (fun y hy => by simp only [List.mem_map] at hy; obtain ⟨z, _, rfl⟩ := hy; exact z.2)
    have hc0 := (hB.cell (p := ⟨b0, 0, none⟩) hlt).trans hb
    have hlw : w.heap.size < W.heap.size := World.block_lt_of_cell? _ _ hc
    have hmx : Try.prog.follows .mixedOrders = true := by kernel_rfl
    have HD2 := Lib.hid (fun W hW => HD.out a b W hW)
    have HX : Hid (sf ((pre ++ [(⟨(a, b), hx⟩ : Str)]).map (fun x => x.1)) = if b - a - dm a b < sf (pre.map (fun x => x.1)) then b - a - dm a b else sf (pre.map (fun x => x.1))) := Lib.hid (by rw [List.map_append, ← min_if]; exact HSN.out _ (a, b))
    generalize sf (pre.map (fun x => x.1)) = s1 at *
    generalize dm a b = d at *
    dsimp only
    have w1 : IntKind.i64.wrap (b - a) = b - a := IntWalk.i64_in _ (by omega)
    have w2 : IntKind.i64.wrap (b - a - d) = b - a - d := IntWalk.i64_in _ (by omega)
    refine wpIn_block ?_
    refine round_region_held (S := fun w' => w'.cell? ⟨b0, 0, none⟩ = some (.slice A n c)) (by kernel_rfl) (by kernel_rfl) (by go_keep) (fun hHeld => ?_)
    refine wpAnyH_take (i := 1) (v := .int .i64 b) rfl (by kernel_rfl) (by kernel_rfl) (by kernel_rfl) (fun _ _ _ h => h) (Or.inl ⟨by rfl, fun w hSw => ?_⟩) (by assumption) ?_
    · dsimp only at hSw; go_simp
    try simp only [Act.put, List.setIfInBounds_toArray, List.set_cons_zero, List.set_cons_succ]
    refine wpAnyH_take (i := 2) (v := .int .i64 a) rfl (by kernel_rfl) (by kernel_rfl) (by kernel_rfl) (fun _ _ _ h => h) (Or.inl ⟨by rfl, fun w hSw => ?_⟩) (by assumption) ?_
    · dsimp only at hSw; go_simp
    try simp only [Act.put, List.setIfInBounds_toArray, List.set_cons_zero, List.set_cons_succ]
    refine wpAnyH_take (i := 3) (v := .int .i64 (b - a)) rfl (by kernel_rfl) (by kernel_rfl) (by kernel_rfl) (fun _ _ _ h => h) (Or.inl ⟨by rfl, fun w hSw => ?_⟩) (by assumption) ?_
    · dsimp only at hSw; go_simp
    try simp only [Act.put, List.setIfInBounds_toArray, List.set_cons_zero, List.set_cons_succ]
    refine wpAnyH_take (i := 4) (v := .slice A n c) rfl (by kernel_rfl) (by kernel_rfl) (by kernel_rfl) (fun _ _ _ h => h) (Or.inl ⟨by rfl, fun w hSw => ?_⟩) (by assumption) ?_
    · dsimp only at hSw; go_simp
    try simp only [Act.put, List.setIfInBounds_toArray, List.set_cons_zero, List.set_cons_succ]
    refine wpAnyH_take (i := 5) (v := .int .i64 a) rfl (by kernel_rfl) (by kernel_rfl) (by kernel_rfl) (fun _ _ _ h => h) (Or.inl ⟨by rfl, fun w hSw => ?_⟩) (by assumption) ?_
    · dsimp only at hSw; go_simp
    try simp only [Act.put, List.setIfInBounds_toArray, List.set_cons_zero, List.set_cons_succ]
    refine wpAnyH_take (i := 6) (v := .int .i64 b) rfl (by kernel_rfl) (by kernel_rfl) (by kernel_rfl) (fun _ _ _ h => h) (Or.inl ⟨by rfl, fun w hSw => ?_⟩) (by assumption) ?_
    · dsimp only at hSw; go_simp
    try simp only [Act.put, List.setIfInBounds_toArray, List.set_cons_zero, List.set_cons_succ]
    refine wpAnyH_ready (rs := [0, 7]) (by kernel_rfl) (by simp) (AllReadyH.cons rfl (fun K hK => ?_) (AllReadyH.cons rfl (fun K hK => ?_) AllReadyH.nil))
    · go_simp
      refine hK.out _ _ (by go_keep) (fun hHeld => ?_)
      clear hK K
      try simp only [Act.put, List.setIfInBounds_toArray, List.set_cons_zero, List.set_cons_succ]
      refine wpAnyH_ready (rs := [7]) (by kernel_rfl) (by simp) (AllReadyH.cons rfl (fun K hK => ?_) AllReadyH.nil)
      go_simp
      refine Calls.mono (HD2.out _ hB.drew) ?_
      rintro e w' ⟨rfl, hB2⟩
      have hc2 := (hB2.cell (p := ⟨w.heap.size, 0, none⟩) (by simpa using hlw)).trans hc
      have hf2 := (hB2.frozen (p := ⟨w.heap.size, 0, none⟩) (by simpa using hlw)).trans hf
      have hc3 := (hB2.cell (p := ⟨b0, 0, none⟩) (by simpa using Nat.lt_of_lt_of_le hlt hB.size)).trans hc0
      try dsimp only
      refine hK.out _ _ hc3 (fun hHeld => ?_)
      clear hK K
      try simp only [Act.put, List.setIfInBounds_toArray, List.set_cons_zero, List.set_cons_succ]
      refine wpAnyH_take (i := 8) (v := .int .i64 (b - a - d)) rfl (by kernel_rfl) (by kernel_rfl) (by kernel_rfl) (fun _ _ _ h => h) (Or.inl ⟨by rfl, fun w hSw => ?_⟩) (by assumption) ?_
      · dsimp only at hSw; go_simp
      try simp only [Act.put, List.setIfInBounds_toArray, List.set_cons_zero, List.set_cons_succ]
      refine wpAnyH_take (i := 9) (v := .int .i64 (if b - a - d < s1 then b - a - d else s1)) rfl (by kernel_rfl) (by kernel_rfl) (by kernel_rfl) (fun _ _ _ h => h) (Or.inl ⟨by rfl, fun w hSw => ?_⟩) (by assumption) ?_
      · dsimp only at hSw; go_simp
      try simp only [Act.put, List.setIfInBounds_toArray, List.set_cons_zero, List.set_cons_succ]
      refine wpAnyH_ready (rs := [10]) (by kernel_rfl) (by simp) (AllReadyH.cons rfl (fun K hK => ?_) AllReadyH.nil)
      go_simp
      refine hK.out _ _ (by rw [World.cell?_setCell_other _ _ _ _ (by intro e; injection e; omega)]; exact hc3) (fun hHeld => ?_)
      clear hK K
      try simp only [Act.put, List.setIfInBounds_toArray, List.set_cons_zero, List.set_cons_succ]
      refine wpAnyH_done (by kernel_rfl) ?_ _
      refine NoOut.normal ?_
      show _ ∧ _ ∧ _
      exact ⟨((KeepsOthers.drew _).trans (keepsOthers_of_below hB2)).trans (KeepsOthers.setCell _ _ _), trivial, ⟨by rw [HX.out]; exact World.cell?_setCell_same' _ _ _ (by rw [hc2]; rfl), by rw [World.frozen?_setCell]; exact hf2⟩, ((hB.drew.trans (hB2.mono (by simpa using hB.size))).setCell (p := ⟨w.heap.size, 0, none⟩) (Nat.le_refl _) _)⟩
    · go_simp
      refine Calls.mono (HD2.out _ hB.drew) ?_
      rintro e w' ⟨rfl, hB2⟩
      have hc2 := (hB2.cell (p := ⟨w.heap.size, 0, none⟩) (by simpa using hlw)).trans hc
      have hf2 := (hB2.frozen (p := ⟨w.heap.size, 0, none⟩) (by simpa using hlw)).trans hf
      have hc3 := (hB2.cell (p := ⟨b0, 0, none⟩) (by simpa using Nat.lt_of_lt_of_le hlt hB.size)).trans hc0
      try dsimp only
      refine hK.out _ _ hc3 (fun hHeld => ?_)
      clear hK K
      try simp only [Act.put, List.setIfInBounds_toArray, List.set_cons_zero, List.set_cons_succ]
      refine wpAnyH_take (i := 8) (v := .int .i64 (b - a - d)) rfl (by kernel_rfl) (by kernel_rfl) (by kernel_rfl) (fun _ _ _ h => h) (Or.inl ⟨by rfl, fun w hSw => ?_⟩) (by assumption) ?_
      · dsimp only at hSw; go_simp
      try simp only [Act.put, List.setIfInBounds_toArray, List.set_cons_zero, List.set_cons_succ]
      refine wpAnyH_ready (rs := [0]) (by kernel_rfl) (by simp) (AllReadyH.cons rfl (fun K hK => ?_) AllReadyH.nil)
      go_simp
      refine hK.out _ _ hc3 (fun hHeld => ?_)
      clear hK K
      try simp only [Act.put, List.setIfInBounds_toArray, List.set_cons_zero, List.set_cons_succ]
      refine wpAnyH_take (i := 9) (v := .int .i64 (if b - a - d < s1 then b - a - d else s1)) rfl (by kernel_rfl) (by kernel_rfl) (by kernel_rfl) (fun _ _ _ h => h) (Or.inl ⟨by rfl, fun w hSw => ?_⟩) (by assumption) ?_
      · dsimp only at hSw; go_simp
      try simp only [Act.put, List.setIfInBounds_toArray, List.set_cons_zero, List.set_cons_succ]
      refine wpAnyH_ready (rs := [10]) (by kernel_rfl) (by simp) (AllReadyH.cons rfl (fun K hK => ?_) AllReadyH.nil)
      go_simp
      refine hK.out _ _ (by rw [World.cell?_setCell_other _ _ _ _ (by intro e; injection e; omega)]; exact hc3) (fun hHeld => ?_)
      clear hK K
      try simp only [Act.put, List.setIfInBounds_toArray, List.set_cons_zero, List.set_cons_succ]
      refine wpAnyH_done (by kernel_rfl) ?_ _
      refine NoOut.normal ?_
      show _ ∧ _ ∧ _
      exact ⟨((KeepsOthers.drew _).trans (keepsOthers_of_below hB2)).trans (KeepsOthers.setCell _ _ _), trivial, ⟨by rw [HX.out]; exact World.cell?_setCell_same' _ _ _ (by rw [hc2]; rfl), by rw [World.frozen?_setCell]; exact hf2⟩, ((hB.drew.trans (hB2.mono (by simpa using hB.size))).setCell (p := ⟨w.heap.size, 0, none⟩) (Nat.le_refl _) _)⟩
  case done =>
    rintro D ys W hD hys ⟨⟨hc, hf⟩, hB⟩ hK
    gi_wp2
    refine ⟨by simp, .inl ⟨_, _, rfl, run_takeDeferred hK, ?_⟩⟩
    exact ⟨_, results_tmp rfl _ _ _, by rw [HS.out, ← hys]; rfl, hB.trans (belowK_b (w := w) (Nat.le_refl _) W D _ _ (by simp at hD; omega) hK rfl rfl)⟩
  case stop =>
    rintro D c pre W _ _ h _
    exact h.elim
end Go.Proofs.Ytdafiblnanpiiaa
