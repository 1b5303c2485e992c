/- Walks over alert: Turned and Moved. -/
import Derived.Test.YtdafiblnanpiiaaAlMv2
namespace Go.Proofs.Ytdafiblnanpiiaa
open Go.RowKit
set_option linter.unusedSimpArgs false
set_option linter.unusedVariables false

/-- what stays while two cells of a block are written -/
theorem keepF0 {F G : World → Value} {b0 g p q : Nat} {x y : Value} (hF : ∀ W : World, (W.cell? ⟨g, p, none⟩).isSome = true → W.cell? ⟨g, p, none⟩ = some (F W)) (hG : ∀ W : World, (W.cell? ⟨g, q, none⟩).isSome = true → W.cell? ⟨g, q, none⟩ = some (G W)) {W : World}
    (h1 : W.cell? ⟨b0, 0, none⟩ = some x) (h2 : W.cell? ⟨b0, 1, none⟩ = some y) (i1 : (W.cell? ⟨g, p, none⟩).isSome = true) (i2 : (W.cell? ⟨g, q, none⟩).isSome = true) (f1 : W.frozen? ⟨g, p, none⟩ = false) (f2 : W.frozen? ⟨g, q, none⟩ = false) :
    W.cell? ⟨b0, 0, none⟩ = some x ∧ W.cell? ⟨b0, 1, none⟩ = some y ∧ W.cell? ⟨g, p, none⟩ = some (F W) ∧ W.cell? ⟨g, q, none⟩ = some (G W) ∧ W.frozen? ⟨g, p, none⟩ = false ∧ W.frozen? ⟨g, q, none⟩ = false :=
  ⟨h1, h2, hF W i1, hG W i2, f1, f2⟩
theorem keepF1 {F G : World → Value} {b0 g p q r : Nat} {x y : Value} (hF : ∀ W : World, (W.cell? ⟨g, p, none⟩).isSome = true → W.cell? ⟨g, p, none⟩ = some (F W)) (hG : ∀ W : World, (W.cell? ⟨g, q, none⟩).isSome = true → W.cell? ⟨g, q, none⟩ = some (G W)) (hg : g ≠ b0) {W : World}
    (h : W.cell? ⟨b0, 0, none⟩ = some x ∧ W.cell? ⟨b0, 1, none⟩ = some y ∧ W.cell? ⟨g, p, none⟩ = some (F W) ∧ W.cell? ⟨g, q, none⟩ = some (G W) ∧ W.frozen? ⟨g, p, none⟩ = false ∧ W.frozen? ⟨g, q, none⟩ = false) (hr : r = p ∨ r = q) (v : Value) :
    (W.setCell ⟨g, r, none⟩ v).cell? ⟨b0, 0, none⟩ = some x ∧ (W.setCell ⟨g, r, none⟩ v).cell? ⟨b0, 1, none⟩ = some y ∧ (W.setCell ⟨g, r, none⟩ v).cell? ⟨g, p, none⟩ = some (F (W.setCell ⟨g, r, none⟩ v)) ∧ (W.setCell ⟨g, r, none⟩ v).cell? ⟨g, q, none⟩ = some (G (W.setCell ⟨g, r, none⟩ v)) ∧ (W.setCell ⟨g, r, none⟩ v).frozen? ⟨g, p, none⟩ = false ∧ (W.setCell ⟨g, r, none⟩ v).frozen? ⟨g, q, none⟩ = false := by
  obtain ⟨h1, h2, h3, h4, f1, f2⟩ := h
  have far : ∀ o, (W.setCell ⟨g, r, none⟩ v).cell? ⟨b0, o, none⟩ = W.cell? ⟨b0, o, none⟩ := fun o => World.cell?_setCell_other _ _ _ _ (by intro e; injection e with e1; exact hg e1)
  have iso : ∀ o u, W.cell? ⟨g, o, none⟩ = some u → ((W.setCell ⟨g, r, none⟩ v).cell? ⟨g, o, none⟩).isSome = true := fun o u hu => by
    by_cases e : r = o
    · subst e; rw [World.cell?_setCell_same _ _ _ hu]; rfl
    · rw [World.cell?_setCell_other _ _ _ _ (by intro e'; injection e' with _ e2; exact e e2), hu]; rfl
  refine ⟨(far 0).trans h1, (far 1).trans h2, hF _ (iso p _ h3), hG _ (iso q _ h4), ?_, ?_⟩
  · simpa using f1
  · simpa using f2
def IsT (K : List (Int × Int × Int)) (v : Value) (w : World) : Prop := ∃ A c, v = .slice A K.length c ∧ RdT w w.heap.size A K
theorem OutT.of_told {L : List (Int × Int × Int)} {w w1 w' : World} {e : Ending} (hB0 : Below w.heap.size w w1) (h : Told (.slice none 0 0) L (IsT (trnT L)) w1 e w') : OutT (SlackE L) (TrnK L) w e w' := by
  obtain ⟨hB, h⟩ := h
  refine ⟨hB0.trs hB, ?_⟩
  unfold TrnK
  rcases h with ⟨hv, rfl⟩ | ⟨hv, v, rfl, A, c, rfl, hr⟩
  · rw [hv, SlackE_no hv]; exact ⟨none, 0, rfl, .inl rfl⟩
  · rw [hv, SlackE_yes hv]; exact ⟨A, c, rfl, hr⟩

set_option maxRecDepth 100000 in
set_option maxHeartbeats 8000000 in
theorem Turned1_any (A : Option Addr) (c b : Nat) (L : List (Int × Int × Int)) (w : World) (hr : RdT w w.heap.size A L) (hok : okT L) (hcell : w.cell? ⟨b, 0, none⟩ = some (.slice A L.length c)) :
    Calls Try.prog 81 #[.pointer (some ⟨b, 0, none⟩)] w fun e w' => Below w.heap.size w w' ∧ ∃ v, e = .returned v ∧ IsT (trnT L) v w' := by
  have hn12 := hok.1.2
  have hn1 := hok.1.1
  have hne : L ≠ [] := fun e => by rw [e] at hn1; simp at hn1
  have HCl := Lib.hid (CloneT_any A c L w hr hne (by omega))
  have HR := Lib.hid hr
  have HNE := Lib.hid hne
  have hbl := World.block_lt_of_cell? _ _ hcell
  have HCE := Lib.hid (fun W (hW : Below w.heap.size w W) => (show W.cell? ⟨b, 0, none⟩ = some (.slice A L.length c) from (hW.cell (p := ⟨b, 0, none⟩) hbl).trans hcell))
  have HOK := Lib.hid hok.2
  have HIT : Hid (∀ W B v, OwnT W B 36 v (halfT trnX L L.length) → IsT (trnT L) v W) := Lib.hid (fun W B v h => by
    rw [halfT_all] at h
    obtain ⟨A2, c2, h1, h2⟩ := h.rd
    exact ⟨A2, c2, h1, h2⟩)
  have HH0 : Hid (halfT trnX L 0 = L) := Lib.hid (halfT_zero _ _)
  have HHS := Lib.hid (fun i hi => halfT_succ trnX (L := L) (i := i) hi)
  have HHA := Lib.hid (fun i hi => halfT_at trnX (L := L) (i := i) hi)
  have HHL := Lib.hid (halfT_len trnX L)
  have HX : Hid (∀ i, trnX (tx L i) = (100 - tb L i, 100 - ta L i, tc L i)) := Lib.hid (fun _ => rfl)
  clear hok hne hr
  generalize IsT (trnT L) = R at *
  generalize halfT trnX L = hf at *
  generalize hn : L.length = n at *
  have HN := Lib.hid hn; clear hn
  go_enter Try.func81, Try.ntmps81
  go_wp2_with (go_at_call 66; refine HCl.out.mono ?_; rintro e w1 ⟨v, rfl, hO1, h1⟩; have hcl := HCE.out _ h1; rcases hO1.form with ⟨_, h0⟩ | ⟨g, cc, rfl, hg0, hg1, -⟩; · exact absurd h0 HNE.out)
  rw [HN.out] at hO1 ⊢
  have HO1 := Lib.hid hO1
  have HB1 := Lib.hid h1
  clear hO1 h1
  go_loopg [9] n (fun k t wr => ∃ i : Nat, t = .int .i64 i ∧ i ≤ n ∧ n - i ≤ k ∧ w1.heap.size ≤ wr.heap.size ∧ Below w.heap.size w wr ∧ OwnT wr w.heap.size 36 (.slice (some ⟨g, 0, none⟩) n cc) (hf i))
  case atStart => exact ⟨0, rfl, by omega, by omega, Nat.le_refl _, HB1.out, by rw [HH0.out]; exact HO1.out⟩
  case round =>
    obtain ⟨i, rfl, hi, hk, hsz, hB, hO⟩ := hrel
    by_cases hlt : i < n
    · obtain ⟨bb, o, rfl, hbb, c1, c2, c3⟩ := HR.out.at_ (k := i) (by rw [HN.out]; exact hlt)
      rw [← hB.cell hbb] at c1 c2 c3
      have hcl2 := HCE.out _ hB
      have hok := HOK.out i hlt
      have HHSi := Lib.hid (HHS.out i hlt)
      rw [HX.out] at HHSi
      obtain ⟨a1, a2, a3⟩ := HHA.out i hlt
      have hhl := HHL.out i
      generalize hW0 : wr.alloc (.cells #[.int .i64 (ta L i), .int .i64 (tb L i), .int .i64 (tc L i)] 36) = W0 at *
      have hbx : Box W0 wr.heap.size 36 #[.int .i64 (ta L i), .int .i64 (tb L i), .int .i64 (tc L i)] := by rw [← hW0]; exact Box.new _ _ _
      have hO0 : OwnT W0 w.heap.size 36 (.slice (some ⟨g, 0, none⟩) n cc) (hf i) := by rw [← hW0]; exact hO.kept (below_alloc _ _)
      have hB0 : Below w.heap.size w W0 := by rw [← hW0]; exact hB.trs (below_alloc _ _)
      have hs0 : wr.heap.size < W0.heap.size := by rw [← hW0]; simp
      obtain ⟨g', cc', he, hg2, hg3, -, -, hcs, hfz⟩ : ∃ g' cc', Value.slice (some ⟨g, 0, none⟩) n cc = .slice (some ⟨g', 0, none⟩) (hf i).length cc' ∧ w.heap.size ≤ g' ∧ g' < W0.heap.size ∧ (hf i).length ≤ cc' ∧ cc' ≤ maxLen ∧ (∀ k, k < (hf i).length → W0.cell? ⟨g', k * 3, none⟩ = some (.int .i64 (ta (hf i) k)) ∧ W0.cell? ⟨g', k * 3 + 1, none⟩ = some (.int .i64 (tb (hf i) k)) ∧ W0.cell? ⟨g', k * 3 + 2, none⟩ = some (.int .i64 (tc (hf i) k))) ∧ ∀ k, W0.frozen? ⟨g', k, none⟩ = false := by
        rcases hO0.form with ⟨h1, _⟩ | h
        · cases h1
        · exact h
      injection he with he1 he2 he3
      injection he1 with he1
      injection he1 with he1
      subst he1
      obtain ⟨e1, e2, -⟩ := hcs i (by rw [hhl]; exact hlt)
      have f1 := hfz (i * 3)
      have f2 := hfz (i * 3 + 1)
      have j1 : W0.cell? ⟨wr.heap.size, 0, none⟩ = some (.int .i64 (ta L i)) := hbx.cell 0
      have j2 : W0.cell? ⟨wr.heap.size, 1, none⟩ = some (.int .i64 (tb L i)) := hbx.cell 1
      have hgne : g ≠ wr.heap.size := by omega
      have i1 : (W0.cell? ⟨g, i * 3, none⟩).isSome = true := by rw [e1]; rfl
      have i2 : (W0.cell? ⟨g, i * 3 + 1, none⟩).isSome = true := by rw [e2]; rfl
      have HK := Lib.hid (And.intro hO0 (And.intro hB0 (And.intro hsz hs0)))
      have HW0 := Lib.hid hW0
      have hset := set_cong (hf i) i (100 - tb L i) (100 - ta L i) (tc L i) a3
      have HSET := Lib.hid hset
      clear hO hB hO0 hB0 hW0 hcs hfz e1 e2 hbx a1 a2 a3 he2 he3 hset
      generalize ta L i = x at *
      generalize tb L i = y at *
      generalize tc L i = z at *
      have v1 : wrap64 (100 - x) = 100 - x := IntWalk.wrap64_in _ (by omega)
      have v2 : wrap64 (100 - y) = 100 - y := IntWalk.wrap64_in _ (by omega)
      have v3 : IntKind.i64.wrap (100 - x) = 100 - x := IntWalk.i64_in _ (by omega)
      have v4 : IntKind.i64.wrap (100 - y) = 100 - y := IntWalk.i64_in _ (by omega)
      have hi0 : (i : Int) < (n : Int) := by omega
      go_wp2
      rw [HW0.out]
      obtain ⟨F, hF⟩ : ∃ F : World → Value, ∀ W : World, (W.cell? ⟨g, i * 3, none⟩).isSome = true → W.cell? ⟨g, i * 3, none⟩ = some (F W) := ⟨fun W => (W.cell? ⟨g, i * 3, none⟩).getD undef, fun W h => by cases hc : W.cell? ⟨g, i * 3, none⟩ <;> simp_all⟩
      obtain ⟨G, hG⟩ : ∃ G : World → Value, ∀ W : World, (W.cell? ⟨g, i * 3 + 1, none⟩).isSome = true → W.cell? ⟨g, i * 3 + 1, none⟩ = some (G W) := ⟨fun W => (W.cell? ⟨g, i * 3 + 1, none⟩).getD undef, fun W h => by cases hc : W.cell? ⟨g, i * 3 + 1, none⟩ <;> simp_all⟩
      have HF := Lib.hid hF
      have HG := Lib.hid hG
      clear hF hG
      go_region_held3 (fun w' => w'.cell? ⟨wr.heap.size, 0, none⟩ = some (.int .i64 x) ∧ w'.cell? ⟨wr.heap.size, 1, none⟩ = some (.int .i64 y) ∧ w'.cell? ⟨g, i * 3, none⟩ = some (F w') ∧ w'.cell? ⟨g, i * 3 + 1, none⟩ = some (G w') ∧ w'.frozen? ⟨g, i * 3, none⟩ = false ∧ w'.frozen? ⟨g, i * 3 + 1, none⟩ = false) (first | exact keepF1 HF.out HG.out hgne ‹_ ∧ _› (.inl rfl) _ | exact keepF1 HF.out HG.out hgne ‹_ ∧ _› (.inr rfl) _ | exact keepF0 (W := W0.drewN 1) HF.out HG.out j1 j2 i1 i2 f1 f2 | exact keepF0 HF.out HG.out j1 j2 i1 i2 f1 f2 | go_keep) (fail)
      all_goals
        go_wp2
        go_roundg (n - (i + 1))
        case measure => omega
        case rel =>
          refine ⟨i + 1, by go_num, by omega, by omega, by have := HK.out.2.2.1; simp; omega, ((HK.out.2.1.drewsN 1).setCell (p := ⟨g, _, none⟩) hg2 _).setCell (p := ⟨g, _, none⟩) hg2 _, ?_⟩
          rw [HHSi.out, ← HSET.out]
          first
            | exact (HK.out.1.kept ((Below.refl _ _).drewsN 1)).set2 i (100 - y) (100 - x) (by rw [hhl]; exact hlt)
            | exact (HK.out.1.kept ((Below.refl _ _).drewsN 1)).set2' i (100 - y) (100 - x) (by rw [hhl]; exact hlt)
    · obtain rfl : n = i := by omega
      have HO := Lib.hid hO
      have HB := Lib.hid hB
      clear hO hB
      go_wp2
      go_ret
      exact ⟨HB.out, _, rfl, HIT.out _ _ _ HO.out⟩

theorem Turned_any (A : Option Addr) (c : Nat) (L : List (Int × Int × Int)) (w : World) (hr : RdT w w.heap.size A L) (hl : L.length ≤ 1125899906842624) :
    Calls Try.prog 44 #[.slice A L.length c] w (OutT (SlackE L) (TrnK L) w) := by
  have hB0 := below_alloc w (.cells #[.slice A L.length c] 22)
  have hcell := cell_one w (.slice A L.length c) 22
  have HT := Lib.hid ((toldT_any 81 #[.pointer (some ⟨w.heap.size, 0, none⟩)] A c L (IsT (trnT L)) _ (hr.on hB0) hl (enters_of Try.func81 (by kernel_rfl) rfl) (fun hv W hW =>
    Turned1_any A c w.heap.size L W ((hr.on hB0).on hW) (okT_of hv) ((hW.cell (p := ⟨w.heap.size, 0, none⟩) (by simp)).trans hcell))).mono fun e w' h => (⟨h, OutT.of_told hB0 h⟩ : Told (.slice none 0 0) L (IsT (trnT L)) _ e w' ∧ OutT (SlackE L) (TrnK L) w e w'))
  unfold Told at HT
  generalize OutT (SlackE L) (TrnK L) w = Q at *
  clear hr hcell
  generalize IsT (trnT L) = R at *
  generalize L.length = n at *
  go_enter Try.func44, Try.ntmps44
  go_wp2_with (go_at_call 80; refine HT.out.mono ?_; rintro e w' ⟨⟨hB, ⟨hv, rfl⟩ | ⟨hv, v, rfl, hR⟩⟩, hQ⟩ <;> (have HQ := Lib.hid hQ; clear hQ hv))
  · exact HQ.out
  · exact HQ.out

/-! ### Moved -/
theorem MovE_lift {L : List (Int × Int × Int)} {k : Int} (hv : vldT L = true) : MovE L k = if btw (-100) k 100 && vldT (movT L k) then 0 else 2 := by unfold MovE; rw [hv]; rfl

set_option maxRecDepth 100000 in
set_option maxHeartbeats 8000000 in
theorem Moved_any (A : Option Addr) (c : Nat) (L : List (Int × Int × Int)) (by_ : Int) (w : World) (hr : RdT w w.heap.size A L) (hl : L.length ≤ 1125899906842624) :
    Calls Try.prog 41 #[.slice A L.length c, .int .i64 by_] w (OutT (MovE L by_) (MovK L by_) w) := by
  have HV := Lib.hid (Valid_any A c L w hr hl)
  have HR := Lib.hid hr
  have hE : MovE L by_ = if vldT L then (if btw (-100) by_ 100 && vldT (movT L by_) then 0 else 2) else 80 := rfl
  have H1 := Lib.hid (fun E W (h : MovE L by_ = E) (hE : E ≠ 0) (hW : Below w.heap.size w W) => OutT.no h hE hW)
  have H2 := Lib.hid (fun W B v (h : MovE L by_ = 0) (hW : Below w.heap.size w W) (ho : OwnT W B 36 v (movT L by_)) => OutT.yes h hW ho)
  generalize OutT (MovE L by_) (MovK L by_) w = Q at *
  cases hv : vldT L <;> rw [hv] at HV hE
  · have HE := Lib.hid hE
    clear hv H2 hE hr
    generalize L.length = n at *
    go_enter Try.func41, Try.ntmps41
    go_wp2_with (first | (go_at_call 49; refine HV.out.mono ?_; rintro e w1 ⟨rfl, h1⟩) | (go_at_call 70; (with_reducible refine (between_any _ _ _ _).mono ?_); rintro e w' ⟨rfl, rfl⟩))
    exact H1.out _ _ HE.out (by decide) h1
  · have hok := okT_of hv
    cases hb : btw (-100) by_ 100 <;> rw [hb] at hE
    · have HE := Lib.hid hE
      have HBT := Lib.hid hb
      clear hv H2 hE hok hr
      generalize L.length = n at *
      go_enter Try.func41, Try.ntmps41
      go_wp2_with (first | (go_at_call 49; refine HV.out.mono ?_; rintro e w1 ⟨rfl, h1⟩) | (go_at_call 70; (with_reducible refine (between_any _ _ _ _).mono ?_); rintro e w' ⟨rfl, rfl⟩))
      exact H1.out 2 _ HE.out (by decide) h1
    · have hby := btw_iff.1 hb
      have hn12 := hok.1.2
      have hn1 := hok.1.1
      have hne : L ≠ [] := fun e => by rw [e] at hn1; simp at hn1
      have HNE := Lib.hid hne
      have HCl := Lib.hid (fun W (hW : Below w.heap.size w W) => CloneT_any A c L W (hr.on hW) hne (by omega))
      have HOK := Lib.hid hok.2
      have HH0 : Hid (halfT (movX by_) L 0 = L) := Lib.hid (halfT_zero _ _)
      have HHS := Lib.hid (fun i hi => halfT_succ (movX by_) (L := L) (i := i) hi)
      have HHA := Lib.hid (fun i hi => halfT_at (movX by_) (L := L) (i := i) hi)
      have HHL := Lib.hid (halfT_len (movX by_) L)
      have HHE : Hid (halfT (movX by_) L L.length = movT L by_) := Lib.hid (halfT_all _ _)
      have HX : Hid (∀ i, movX by_ (tx L i) = (ta L i + by_, tb L i + by_, tc L i)) := Lib.hid (fun _ => rfl)
      have hml : (movT L by_).length = L.length := by simp [movT]
      have HV2 := Lib.hid (fun A2 c2 W (h : RdT W W.heap.size A2 (movT L by_)) => Valid_any A2 c2 (movT L by_) W h (by rw [hml]; omega))
      rw [hml] at HV2
      have HMLn := Lib.hid hml
      clear hv hok hml hne hr
      generalize halfT (movX by_) L = hf at *
      generalize movT L by_ = mt at *
      generalize hn : L.length = n at *
      have HN := Lib.hid hn; clear hn
      go_enter Try.func41, Try.ntmps41
      go_wp2_with (first
        | (go_at_call 49; refine HV.out.mono ?_; rintro e w0 ⟨rfl, h0⟩; have HB0 := Lib.hid h0; clear h0)
        | (go_at_call 70; (with_reducible refine (between_any _ _ _ _).mono ?_); rintro e w' ⟨rfl, rfl⟩)
        | (go_at_call 66; refine (HCl.out _ HB0.out).mono ?_; rintro e w1 ⟨v, rfl, hO1, h1⟩; rcases hO1.form with ⟨_, h0⟩ | ⟨g, cc, rfl, hg0, hg1, -⟩; · exact absurd h0 HNE.out))
      have hgw : w.heap.size ≤ g := by have := HB0.out.size; omega
      rw [HN.out] at hO1 ⊢
      have HO1 := Lib.hid (hO1.less HB0.out.size)
      have HB1 := Lib.hid (HB0.out.trs h1)
      clear hO1 h1
      go_loopg [20] n (fun k t wr => ∃ i : Nat, t = .int .i64 i ∧ i ≤ n ∧ n - i ≤ k ∧ Below w.heap.size w wr ∧ OwnT wr w.heap.size 36 (.slice (some ⟨g, 0, none⟩) n cc) (hf i))
      case atStart => exact ⟨0, rfl, by omega, by omega, HB1.out, by rw [HH0.out]; exact HO1.out⟩
      case round =>
        obtain ⟨i, rfl, hi, hk, hB, hO⟩ := hrel
        by_cases hlt : i < n
        · have hok := HOK.out i hlt
          have HHSi := Lib.hid (HHS.out i hlt)
          rw [HX.out] at HHSi
          obtain ⟨a1, a2, a3⟩ := HHA.out i hlt
          have hhl := HHL.out i
          obtain ⟨g', cc', he, hg2, hg3, -, -, hcs, hfz⟩ : ∃ g' cc', Value.slice (some ⟨g, 0, none⟩) n cc = .slice (some ⟨g', 0, none⟩) (hf i).length cc' ∧ w.heap.size ≤ g' ∧ g' < wr.heap.size ∧ (hf i).length ≤ cc' ∧ cc' ≤ maxLen ∧ (∀ k, k < (hf i).length → wr.cell? ⟨g', k * 3, none⟩ = some (.int .i64 (ta (hf i) k)) ∧ wr.cell? ⟨g', k * 3 + 1, none⟩ = some (.int .i64 (tb (hf i) k)) ∧ wr.cell? ⟨g', k * 3 + 2, none⟩ = some (.int .i64 (tc (hf i) k))) ∧ ∀ k, wr.frozen? ⟨g', k, none⟩ = false := by
            rcases hO.form with ⟨h1, _⟩ | h
            · cases h1
            · exact h
          injection he with he1 he2 he3
          injection he1 with he1
          injection he1 with he1
          subst he1
          obtain ⟨e1, e2, -⟩ := hcs i (by rw [hhl]; exact hlt)
          rw [a1] at e1
          rw [a2] at e2
          have f1 := hfz (i * 3)
          have f2 := hfz (i * 3 + 1)
          have hset := set_cong (hf i) i (ta L i + by_) (tb L i + by_) (tc L i) a3
          have HSET := Lib.hid hset
          have HK := Lib.hid (And.intro hO hB)
          clear hO hB hcs hfz a1 a2 a3 he2 he3 hset
          generalize ta L i = x at *
          generalize tb L i = y at *
          generalize tc L i = z at *
          have q1 : (wr.setCell ⟨g, i * 3, none⟩ (.int .i64 (x + by_))).cell? ⟨g, i * 3 + 1, none⟩ = some (.int .i64 y) := by
            rw [World.cell?_setCell_other _ _ _ _ (by intro e; injection e with _ e2; omega)]; exact e2
          have q2 : (wr.setCell ⟨g, i * 3, none⟩ (.int .i64 (x + by_))).frozen? ⟨g, i * 3 + 1, none⟩ = false := by simpa using f2
          have v1 : wrap64 (x + by_) = x + by_ := IntWalk.wrap64_in _ (by omega)
          have v2 : wrap64 (y + by_) = y + by_ := IntWalk.wrap64_in _ (by omega)
          have v3 : IntKind.i64.wrap (x + by_) = x + by_ := IntWalk.i64_in _ (by omega)
          have v4 : IntKind.i64.wrap (y + by_) = y + by_ := IntWalk.i64_in _ (by omega)
          have hi0 : (i : Int) < (n : Int) := by omega
          go_wp2
          go_roundg (n - (i + 1))
          case measure => omega
          case rel =>
            refine ⟨i + 1, by go_num, by omega, by omega, (HK.out.2.setCell (p := ⟨g, _, none⟩) hg2 _).setCell (p := ⟨g, _, none⟩) hg2 _, ?_⟩
            rw [HHSi.out, ← HSET.out]
            exact HK.out.1.set2 i (x + by_) (y + by_) (by rw [hhl]; exact hlt)
        · obtain rfl : n = i := by omega
          rw [HHE.out] at hO
          have HO := Lib.hid hO
          have HBB := Lib.hid hB
          obtain ⟨A9, c9, e9, r9⟩ := hO.rd
          have HV3 := Lib.hid (HV2.out A9 c9 wr r9)
          rw [HMLn.out] at e9
          rw [← e9] at HV3
          clear hO hB r9 e9
          cases hvm : vldT mt <;> rw [hvm] at HV3 hE
          · have HE := Lib.hid hE
            clear hE hvm
            go_wp2_with (go_at_call 49; refine HV3.out.mono ?_; rintro e w2 ⟨rfl, h2⟩)
            exact H1.out 2 _ HE.out (by decide) (HBB.out.trs h2)
          · have HE := Lib.hid hE
            clear hE hvm
            go_wp2_with (go_at_call 49; refine HV3.out.mono ?_; rintro e w2 ⟨rfl, h2⟩)
            exact H2.out _ _ _ HE.out (HBB.out.trs h2) (HO.out.kept h2)
end Go.Proofs.Ytdafiblnanpiiaa
