/- Join and both over each other: plain, and the law's own functions walked. -/
import Derived.Test.YtolgpigdioanoaaSkyLa
import Derived.Test.YtolgpigdioanoaaSkySc
import Derived.Test.YtolgpigdioanoaaSkyE
namespace Go.Proofs.Ytolgpigdioanoaa
open Go.RowKit
set_option linter.unusedSimpArgs false
set_option linter.unusedVariables false

def opR (b : Bool) (l m : List (Int × Int)) : Px := fun x => if b then uniP l x || uniP m x else uniP l x && uniP m x
theorem opR_t (l m : List (Int × Int)) : opR true l m = joinR l m := rfl
theorem opR_f (l m : List (Int × Int)) : opR false l m = bothR l m := rfl
/-- what the law of three sets compares -/
structure OverR (b : Bool) (p q r I F S V : List (Int × Int)) (e1 f g e : Int) : Prop where
  inn : mixL q r (opR (!b) q r) = I ∧ mixE q r (opR (!b) q r) = e1
  fst : mixL p q (opR b p q) = F ∧ mixE p q (opR b p q) = f
  snd : mixL p r (opR b p r) = S ∧ mixE p r (opR b p r) = g
  out : mixL p I (opR b p I) = V ∧ mixE p I (opR b p I) = e
  lens : I.length ≤ 400 ∧ F.length ≤ 400 ∧ S.length ≤ 400 ∧ V.length ≤ 400
  oks : (e1 = 0 ∨ e1 = 4) ∧ (f = 0 ∨ f = 4) ∧ (g = 0 ∨ g = 4)
  same : e1 = 0 → f = 0 → g = 0 → (e = 0 ∨ e = 4) ∧ mixL F S (opR (!b) F S) = V ∧ mixE F S (opR (!b) F S) = e
theorem mix_or {l m : List (Int × Int)} (hl : vldC l = true) (hm : vldC m = true) (R : Px) : mixE l m R = 0 ∨ mixE l m R = 4 := by
  rw [(mix_ok hl hm R).2]
  rcases told_or R with ⟨h, -⟩ | ⟨h, -⟩
  · exact .inl h
  · exact .inr h
theorem mix_set {l m : List (Int × Int)} (hl : vldC l = true) (hm : vldC m = true) (R : Px) (h : mixE l m R = 0) : vldC (mixL l m R) = true ∧ ∀ x, x < 3072 → uniP (mixL l m R) x = R x := by
  obtain ⟨h1, h2⟩ := mix_ok hl hm R
  rw [h2] at h
  rw [h1]
  rcases told_or R with ⟨-, -, h3, h4⟩ | ⟨h5, -⟩
  · exact ⟨h3, h4⟩
  · omega
theorem overs (b : Bool) {p q r : List (Int × Int)} (hp : vldC p = true) (hq : vldC q = true) (hr : vldC r = true) :
    OverR b p q r (mixL q r (opR (!b) q r)) (mixL p q (opR b p q)) (mixL p r (opR b p r)) (mixL p (mixL q r (opR (!b) q r)) (opR b p (mixL q r (opR (!b) q r)))) (mixE q r (opR (!b) q r)) (mixE p q (opR b p q)) (mixE p r (opR b p r)) (mixE p (mixL q r (opR (!b) q r)) (opR b p (mixL q r (opR (!b) q r)))) := by
  refine ⟨⟨rfl, rfl⟩, ⟨rfl, rfl⟩, ⟨rfl, rfl⟩, ⟨rfl, rfl⟩, ⟨mixL_len _ _ _, mixL_len _ _ _, mixL_len _ _ _, mixL_len _ _ _⟩, ⟨mix_or hq hr _, mix_or hp hq _, mix_or hp hr _⟩, fun h1 h2 h3 => ?_⟩
  obtain ⟨v1, u1⟩ := mix_set hq hr _ h1
  obtain ⟨v2, u2⟩ := mix_set hp hq _ h2
  obtain ⟨v3, u3⟩ := mix_set hp hr _ h3
  refine ⟨mix_or hp v1 _, ?_⟩
  obtain ⟨k1, k2⟩ := mix_ok hp v1 (opR b p (mixL q r (opR (!b) q r)))
  obtain ⟨k3, k4⟩ := mix_ok v2 v3 (opR (!b) (mixL p q (opR b p q)) (mixL p r (opR b p r)))
  have key : ∀ x, x < 3072 → opR (!b) (mixL p q (opR b p q)) (mixL p r (opR b p r)) x = opR b p (mixL q r (opR (!b) q r)) x := fun x hx => by
    have e1 := u1 x hx
    have e2 := u2 x hx
    have e3 := u3 x hx
    have o : ∀ b l m, opR b l m x = if b then uniP l x || uniP m x else uniP l x && uniP m x := fun _ _ _ => rfl
    rw [o, o, e1, e2, e3, o, o, o]
    cases b <;> cases uniP p x <;> cases uniP q x <;> cases uniP r x <;> rfl
  obtain ⟨t1, t2⟩ := told_congr key
  rw [k1, k2, k3, k4]
  exact ⟨t1, t2⟩
set_option maxHeartbeats 2000000 in
theorem lawmixed_any (b : Bool) (A : Option Addr) (c : Nat) (l : List (Int × Int)) (A2 : Option Addr) (c2 : Nat) (m : List (Int × Int)) (w : World) (hr : RdP w w.heap.size A l) (hl : l.length ≤ 1000000) (hr2 : RdP w w.heap.size A2 m) (hl2 : m.length ≤ 1000000) :
    Calls Try.prog 107 #[.slice A l.length c, .slice A2 m.length c2, .bool b] w (LstQ (mixL l m (opR b l m)) (mixE l m (opR b l m)) w) := by
  cases b
  · have HB := Lib.hid (Both_any A c l A2 c2 m w hr hl hr2 hl2)
    rw [opR_f]
    clear hr hr2 hl hl2
    unfold LstQ at *
    generalize mixL l m (bothR l m) = L at *
    generalize mixE l m (bothR l m) = E at *
    generalize l.length = n at *
    generalize m.length = n2 at *
    go_enter Try.func107, Try.ntmps107
    go_wp2_with (go_at_call 49; refine HB.out.mono ?_; rintro e w1 ⟨h1, A1, c1, rfl, hr1⟩)
    go_ret2
    exact ⟨h1, A1, c1, rfl, hr1⟩
  · have HB := Lib.hid (Join_any A c l A2 c2 m w hr hl hr2 hl2)
    rw [opR_t]
    clear hr hr2 hl hl2
    unfold LstQ at *
    generalize mixL l m (joinR l m) = L at *
    generalize mixE l m (joinR l m) = E at *
    generalize l.length = n at *
    generalize m.length = n2 at *
    go_enter Try.func107, Try.ntmps107
    go_wp2_with (go_at_call 47; refine HB.out.mono ?_; rintro e w1 ⟨h1, A1, c1, rfl, hr1⟩)
    go_ret2
    exact ⟨h1, A1, c1, rfl, hr1⟩
set_option maxRecDepth 100000 in
set_option maxHeartbeats 8000000 in
theorem over_any (b : Bool) (A : Option Addr) (c : Nat) (p : List (Int × Int)) (A2 : Option Addr) (c2 : Nat) (q : List (Int × Int)) (A3 : Option Addr) (c3 : Nat) (r : List (Int × Int)) (w : World)
    (hr : RdP w w.heap.size A p) (hl : p.length ≤ 1000) (hr2 : RdP w w.heap.size A2 q) (hl2 : q.length ≤ 1000) (hr3 : RdP w w.heap.size A3 r) (hl3 : r.length ≤ 1000) (I F S V : List (Int × Int)) (e1 f g e : Int) (H : OverR b p q r I F S V e1 f g e) :
    Calls Try.prog 46 #[.agg #[.slice A p.length c, .slice A2 q.length c2, .slice A3 r.length c3], .bool b] w fun e w' => e = .returned (.bool true) ∧ Below w.heap.size w w' := by
  obtain ⟨⟨a1, a2⟩, ⟨b1, b2⟩, ⟨d1, d2⟩, ⟨o1, o2⟩, ⟨l1, l2, l3, l4⟩, ⟨k1, k2, k3⟩, hs⟩ := H
  have hb0 := below_alloc w (.cells #[.slice A p.length c, .slice A2 q.length c2, .slice A3 r.length c3] 51)
  have hx0 := Box.new w 51 #[.slice A p.length c, .slice A2 q.length c2, .slice A3 r.length c3]
  have HX := Lib.hid (And.intro hx0 hb0)
  have M1 := Lib.hid (fun W (hW : Below w.heap.size w W) => lawmixed_any (!b) A2 c2 q A3 c3 r W (hr2.on hW) (by omega) (hr3.on hW) (by omega))
  have M2 := Lib.hid (fun A' c' W (hW : Below w.heap.size w W) (h : RdP W W.heap.size A' I) => lawmixed_any b A c p A' c' I W (hr.on hW) (by omega) h (by omega))
  have M3 := Lib.hid (fun W (hW : Below w.heap.size w W) => lawmixed_any b A c p A2 c2 q W (hr.on hW) (by omega) (hr2.on hW) (by omega))
  have M4 := Lib.hid (fun W (hW : Below w.heap.size w W) => lawmixed_any b A c p A3 c3 r W (hr.on hW) (by omega) (hr3.on hW) (by omega))
  have M5 := Lib.hid (fun A' c' A'' c'' W (h : RdP W W.heap.size A' F) (h' : RdP W W.heap.size A'' S) => lawmixed_any (!b) A' c' F A'' c'' S W h (by omega) h' (by omega))
  have SV := Lib.hid (fun A A' c c' W h h' => Same_self A A' c c' V W h h' (by omega))
  rw [a1, a2] at M1
  rw [b1, b2] at M3
  rw [d1, d2] at M4
  rw [o1, o2] at M2
  have HS := Lib.hid hs
  clear hs hr hr2 hr3 hl hl2 hl3 a1 a2 b1 b2 d1 d2 o1 o2 hb0 hx0 l1 l2 l3 l4
  unfold LstQ at *
  rcases k1 with rfl | rfl
  · rcases k2 with rfl | rfl <;> rcases k3 with rfl | rfl
    · obtain ⟨j1, j2, j3⟩ := HS.out rfl rfl rfl
      rw [j2, j3] at M5
      clear HS j2 j3
      generalize p.length = n1 at *
      generalize q.length = n2 at *
      generalize r.length = n3 at *
      generalize I.length = n4 at *
      generalize F.length = n5 at *
      generalize S.length = n6 at *
      generalize V.length = n7 at *
      rcases j1 with rfl | rfl
      all_goals
        go_enter Try.func46, Try.ntmps46
        go_upto_region 1 with (fail)
        generalize hW0 : w.alloc (.cells #[.slice A n1 c, .slice A2 n2 c2, .slice A3 n3 c3] 51) = W0 at *
        clear hW0
        have q0 := HX.out.1.cell 0
        have q1 := HX.out.1.cell 1
        have q2 := HX.out.1.cell 2
        simp at q0 q1 q2
        go_wp2_with (first | (go_at_call 41; refine (SV.out _ _ _ _ _ r2 r5).mono ?_; rintro e w6 ⟨rfl, h6⟩) | (go_at_call 107; have hy := g4; refine (M5.out _ _ _ _ _ r3 r4).mono ?_; rintro e w5 ⟨h5, A5', c5', rfl, r5⟩; have g5 := g4.trs h5; have r2 := r2.on h5; have hbx := HX.out.1.on g5; have q0 := hbx.cell 0; have q1 := hbx.cell 1; have q2 := hbx.cell 2; simp at q0 q1 q2) | (go_at_call 107; have hy := g3; refine (M4.out _ (HX.out.2.trs g3)).mono ?_; rintro e w4 ⟨h4, A4', c4', rfl, r4⟩; have g4 := g3.trs h4; have r2 := r2.on h4; have r3 := r3.on h4; have hbx := HX.out.1.on g4; have q0 := hbx.cell 0; have q1 := hbx.cell 1; have q2 := hbx.cell 2; simp at q0 q1 q2) | (go_at_call 107; have hy := g2; refine (M3.out _ (HX.out.2.trs g2)).mono ?_; rintro e w3 ⟨h3, A3', c3', rfl, r3⟩; have g3 := g2.trs h3; have r2 := r2.on h3; have hbx := HX.out.1.on g3; have q0 := hbx.cell 0; have q1 := hbx.cell 1; have q2 := hbx.cell 2; simp at q0 q1 q2) | (go_at_call 107; have hy := g1; refine (M2.out _ _ _ (HX.out.2.trs g1) r1).mono ?_; rintro e w2 ⟨h2, A2', c2', rfl, r2⟩; have g2 := g1.trs h2; have hbx := HX.out.1.on g2; have q0 := hbx.cell 0; have q1 := hbx.cell 1; have q2 := hbx.cell 2; simp at q0 q1 q2) | (go_at_call 107; refine (M1.out _ HX.out.2).mono ?_; rintro e w1 ⟨h1, A1', c1', rfl, r1⟩; have g1 := h1; have hbx := HX.out.1.on g1; have q0 := hbx.cell 0; have q1 := hbx.cell 1; have q2 := hbx.cell 2; simp at q0 q1 q2))
        go_ret
        exact ⟨by first | rfl | simp, (HX.out.2.trs g5).trs h6⟩
    all_goals
      clear HS
      generalize p.length = n1 at *
      generalize q.length = n2 at *
      generalize r.length = n3 at *
      generalize I.length = n4 at *
      generalize F.length = n5 at *
      generalize S.length = n6 at *
      generalize V.length = n7 at *
      go_enter Try.func46, Try.ntmps46
      go_upto_region 1 with (fail)
      generalize hW0 : w.alloc (.cells #[.slice A n1 c, .slice A2 n2 c2, .slice A3 n3 c3] 51) = W0 at *
      clear hW0
      have q0 := HX.out.1.cell 0
      have q1 := HX.out.1.cell 1
      have q2 := HX.out.1.cell 2
      simp at q0 q1 q2
      go_wp2_with (first | (go_at_call 41; refine (SV.out _ _ _ _ _ r2 r5).mono ?_; rintro e w6 ⟨rfl, h6⟩) | (go_at_call 107; have hy := g4; refine (M5.out _ _ _ _ _ r3 r4).mono ?_; rintro e w5 ⟨h5, A5', c5', rfl, r5⟩; have g5 := g4.trs h5; have r2 := r2.on h5; have hbx := HX.out.1.on g5; have q0 := hbx.cell 0; have q1 := hbx.cell 1; have q2 := hbx.cell 2; simp at q0 q1 q2) | (go_at_call 107; have hy := g3; refine (M4.out _ (HX.out.2.trs g3)).mono ?_; rintro e w4 ⟨h4, A4', c4', rfl, r4⟩; have g4 := g3.trs h4; have r2 := r2.on h4; have r3 := r3.on h4; have hbx := HX.out.1.on g4; have q0 := hbx.cell 0; have q1 := hbx.cell 1; have q2 := hbx.cell 2; simp at q0 q1 q2) | (go_at_call 107; have hy := g2; refine (M3.out _ (HX.out.2.trs g2)).mono ?_; rintro e w3 ⟨h3, A3', c3', rfl, r3⟩; have g3 := g2.trs h3; have r2 := r2.on h3; have hbx := HX.out.1.on g3; have q0 := hbx.cell 0; have q1 := hbx.cell 1; have q2 := hbx.cell 2; simp at q0 q1 q2) | (go_at_call 107; have hy := g1; refine (M2.out _ _ _ (HX.out.2.trs g1) r1).mono ?_; rintro e w2 ⟨h2, A2', c2', rfl, r2⟩; have g2 := g1.trs h2; have hbx := HX.out.1.on g2; have q0 := hbx.cell 0; have q1 := hbx.cell 1; have q2 := hbx.cell 2; simp at q0 q1 q2) | (go_at_call 107; refine (M1.out _ HX.out.2).mono ?_; rintro e w1 ⟨h1, A1', c1', rfl, r1⟩; have g1 := h1; have hbx := HX.out.1.on g1; have q0 := hbx.cell 0; have q1 := hbx.cell 1; have q2 := hbx.cell 2; simp at q0 q1 q2))
      go_ret
      exact ⟨by first | rfl | simp, HX.out.2.trs g4⟩
  · clear HS
    generalize p.length = n1 at *
    generalize q.length = n2 at *
    generalize r.length = n3 at *
    go_enter Try.func46, Try.ntmps46
    go_upto_region 1 with (fail)
    generalize hW0 : w.alloc (.cells #[.slice A n1 c, .slice A2 n2 c2, .slice A3 n3 c3] 51) = W0 at *
    clear hW0
    have q0 := HX.out.1.cell 0
    have q1 := HX.out.1.cell 1
    have q2 := HX.out.1.cell 2
    simp at q0 q1 q2
    go_wp2_with (first | (go_at_call 41; refine (SV.out _ _ _ _ _ r2 r5).mono ?_; rintro e w6 ⟨rfl, h6⟩) | (go_at_call 107; have hy := g4; refine (M5.out _ _ _ _ _ r3 r4).mono ?_; rintro e w5 ⟨h5, A5', c5', rfl, r5⟩; have g5 := g4.trs h5; have r2 := r2.on h5; have hbx := HX.out.1.on g5; have q0 := hbx.cell 0; have q1 := hbx.cell 1; have q2 := hbx.cell 2; simp at q0 q1 q2) | (go_at_call 107; have hy := g3; refine (M4.out _ (HX.out.2.trs g3)).mono ?_; rintro e w4 ⟨h4, A4', c4', rfl, r4⟩; have g4 := g3.trs h4; have r2 := r2.on h4; have r3 := r3.on h4; have hbx := HX.out.1.on g4; have q0 := hbx.cell 0; have q1 := hbx.cell 1; have q2 := hbx.cell 2; simp at q0 q1 q2) | (go_at_call 107; have hy := g2; refine (M3.out _ (HX.out.2.trs g2)).mono ?_; rintro e w3 ⟨h3, A3', c3', rfl, r3⟩; have g3 := g2.trs h3; have r2 := r2.on h3; have hbx := HX.out.1.on g3; have q0 := hbx.cell 0; have q1 := hbx.cell 1; have q2 := hbx.cell 2; simp at q0 q1 q2) | (go_at_call 107; have hy := g1; refine (M2.out _ _ _ (HX.out.2.trs g1) r1).mono ?_; rintro e w2 ⟨h2, A2', c2', rfl, r2⟩; have g2 := g1.trs h2; have hbx := HX.out.1.on g2; have q0 := hbx.cell 0; have q1 := hbx.cell 1; have q2 := hbx.cell 2; simp at q0 q1 q2) | (go_at_call 107; refine (M1.out _ HX.out.2).mono ?_; rintro e w1 ⟨h1, A1', c1', rfl, r1⟩; have g1 := h1; have hbx := HX.out.1.on g1; have q0 := hbx.cell 0; have q1 := hbx.cell 1; have q2 := hbx.cell 2; simp at q0 q1 q2))
    go_ret
    exact ⟨by first | rfl | simp, HX.out.2.trs g1⟩
end Go.Proofs.Ytolgpigdioanoaa
