/- The rules of sets: plain. -/
import Derived.Test.YtgbpmleipdecgaaSkySb
import Derived.Test.YtgbpmleipdecgaaSkyDb
namespace Go.Proofs.Ytgbpmleipdecgaa
set_option linter.unusedSimpArgs false
set_option linter.unusedVariables false

theorem look_fits {S : Px} {c : Int × Int} {h p : Nat} (hh : h ≤ 4) (hp : (p + 1) * 4 ^ h ≤ 3072) (hc : c ∈ lookC S h p) : okP c.1 c.2 = true := by
  obtain ⟨h', q, h1, rfl, h3, -⟩ := look_mem hc
  have hq : q < (p + 1) * 4 ^ (h - h') := by
    rw [← Nat.div_lt_iff_lt_mul (four_pos _), h3]; omega
  have h5 : (q + 1) * 4 ^ h' ≤ 3072 := by
    have := Nat.mul_le_mul_right (4 ^ h') (show q + 1 ≤ (p + 1) * 4 ^ (h - h') from hq)
    rw [Nat.mul_assoc, ← Nat.pow_add, show h - h' + h' = h by omega] at this
    omega
  have h6 : h' = 0 ∨ h' = 1 ∨ h' = 2 ∨ h' = 3 ∨ h' = 4 := by omega
  unfold okP
  rw [Bool.and_eq_true, btw_iff, btw_iff]
  refine ⟨⟨by omega, by omega⟩, by omega, ?_⟩
  rcases h6 with rfl | rfl | rfl | rfl | rfl <;> simp only [px, sd] <;> simp at h5 ⊢ <;> omega
theorem cells_ok {S : Px} {c : Int × Int} (hc : c ∈ cellsP S) : okP c.1 c.2 = true := by
  unfold cellsP at hc
  obtain ⟨f, hf, hm⟩ := List.mem_flatMap.1 hc
  have : f < 12 := by simpa using hf
  exact look_fits (by omega) (by have h4 : (4 : Nat) ^ 4 = 256 := by decide
                                 rw [h4]; omega) hm
theorem cells_good (S : Px) : badB (cellsP S) = false := anyF_no.2 fun k hk => by
  have := cells_ok (S := S) (c := (cellsP S)[k]) (List.getElem_mem hk)
  simp only [pa, pb] at *
  simp [hk, this]
theorem cells_valid {S : Px} (h : (cellsP S).length ≤ 400) : vldC (cellsP S) = true :=
  vldC_iff.2 ⟨h, cells_good S, cells_congr fun x hx => cells_uni S hx⟩
theorem told_or (S : Px) : (toldE S = 0 ∧ toldL S = cellsP S ∧ vldC (toldL S) = true ∧ ∀ x, x < 3072 → uniP (toldL S) x = S x) ∨ (toldE S = 4 ∧ toldL S = []) := by
  unfold toldE toldL
  split
  · exact .inr ⟨rfl, rfl⟩
  · exact .inl ⟨rfl, rfl, cells_valid (by omega), fun x hx => cells_uni S hx⟩
theorem told_congr {S T : Px} (h : ∀ x, x < 3072 → S x = T x) : toldL S = toldL T ∧ toldE S = toldE T := by
  unfold toldL toldE
  rw [cells_congr h]
  exact ⟨rfl, rfl⟩
theorem told_self {l : List (Int × Int)} (h : vldC l = true) : toldL (uniP l) = l ∧ toldE (uniP l) = 0 := by
  obtain ⟨h1, h2, h3⟩ := vldC_iff.1 h
  unfold toldL toldE
  rw [h3, if_neg (by omega), if_neg (by omega)]
  exact ⟨rfl, rfl⟩
theorem sky_len : skyL.length = 12 := by rw [← skyN_all]; simp [skyN]
theorem sky_valid : vldC skyL = true := cells_valid (S := fun _ => true) (by have := sky_len; unfold skyL at this; omega)
theorem sky_uni {x : Nat} (h : x < 3072) : uniP skyL x = true := cells_uni (fun _ => true) h
theorem cnt_or (S T : Px) (a : Nat) : ∀ n, cntP S a n + cntP T a n = cntP (fun x => S x || T x) a n + cntP (fun x => S x && T x) a n
  | 0 => rfl
  | n + 1 => by
    have := cnt_or S T a n
    simp only [cntP]
    cases S (a + n) <;> cases T (a + n) <;> simp <;> omega
theorem cnt_not (S : Px) (a : Nat) : ∀ n, cntP S a n + cntP (fun x => !(S x)) a n = n
  | 0 => rfl
  | n + 1 => by
    have := cnt_not S a n
    simp only [cntP]
    cases S (a + n) <;> simp <;> omega
theorem cnt_congr {S T : Px} (h : ∀ x, x < 3072 → S x = T x) : cntP S 0 3072 = cntP T 0 3072 := cntP_congr fun k hk => by rw [Nat.zero_add]; exact h k hk
theorem mix_ok {l m : List (Int × Int)} (hl : vldC l = true) (hm : vldC m = true) (R : Px) : mixL l m R = toldL R ∧ mixE l m R = toldE R := by
  unfold mixL mixE
  rw [hl, hm]
  exact ⟨rfl, rfl⟩
theorem join_comm (l m : List (Int × Int)) : joinR l m = joinR m l := funext fun x => Bool.or_comm _ _
theorem both_comm (l m : List (Int × Int)) : bothR l m = bothR m l := funext fun x => Bool.and_comm _ _
theorem siz_ok {l : List (Int × Int)} (h : vldC l = true) : sizN l = cntP (uniP l) 0 3072 ∧ sizE l = 0 := by
  unfold sizN sizE; rw [h]; exact ⟨rfl, rfl⟩
/-- what the law of two sets compares -/
structure RuleR (l m J B R : List (Int × Int)) (e g i : Int) : Prop where
  join : mixL l m (joinR l m) = J ∧ mixE l m (joinR l m) = e ∧ mixL m l (joinR m l) = J ∧ mixE m l (joinR m l) = e
  both : mixL l m (bothR l m) = B ∧ mixE l m (bothR l m) = g ∧ mixL m l (bothR m l) = B ∧ mixE m l (bothR m l) = g
  rest : mixL skyL m (lessR skyL m) = R ∧ mixE skyL m (lessR skyL m) = i
  lenJ : J.length ≤ 400
  lenB : B.length ≤ 400
  lenR : R.length ≤ 400
  sizes : sizE l = 0 ∧ sizE m = 0 ∧ sizN l ≤ 3072 ∧ sizN m ≤ 3072
  oke : e = 0 ∨ e = 4
  okg : g = 0 ∨ g = 4
  oki : i = 0 ∨ (i = 4 ∧ R.length = 0)
  sums : e = 0 → g = 0 → sizE J = 0 ∧ sizE B = 0 ∧ sizN l + sizN m = sizN J + sizN B
  rests : i = 0 → sizE R = 0 ∧ sizN m + sizN R = 3072 ∧ mixL skyL R (lessR skyL R) = m ∧ mixE skyL R (lessR skyL R) = 0 ∧
    mixL l R (bothR l R) = mixL l m (lessR l m) ∧ mixE l R (bothR l R) = mixE l m (lessR l m)
theorem rules {l m : List (Int × Int)} (hl : vldC l = true) (hm : vldC m = true) : RuleR l m (mixL l m (joinR l m)) (mixL l m (bothR l m)) (mixL skyL m (lessR skyL m)) (mixE l m (joinR l m)) (mixE l m (bothR l m)) (mixE skyL m (lessR skyL m)) := by
  obtain ⟨j1, j2⟩ := mix_ok hl hm (joinR l m)
  obtain ⟨j3, j4⟩ := mix_ok hm hl (joinR m l)
  obtain ⟨b1, b2⟩ := mix_ok hl hm (bothR l m)
  obtain ⟨b3, b4⟩ := mix_ok hm hl (bothR m l)
  obtain ⟨r1, r2⟩ := mix_ok sky_valid hm (lessR skyL m)
  obtain ⟨s1, s2⟩ := siz_ok hl
  obtain ⟨s3, s4⟩ := siz_ok hm
  rw [j1, j2, b1, b2, r1, r2]
  have c1 := cntP_le (uniP l) 0 3072
  have c2 := cntP_le (uniP m) 0 3072
  refine ⟨⟨j1, j2, by rw [j3, join_comm], by rw [j4, join_comm]⟩, ⟨b1, b2, by rw [b3, both_comm], by rw [b4, both_comm]⟩, ⟨r1, r2⟩, toldL_len _, toldL_len _, toldL_len _, ⟨s2, s4, by omega, by omega⟩, ?_, ?_, ?_, ?_, ?_⟩
  · rcases told_or (joinR l m) with ⟨h, -⟩ | ⟨h, -⟩
    · exact .inl h
    · exact .inr h
  · rcases told_or (bothR l m) with ⟨h, -⟩ | ⟨h, -⟩
    · exact .inl h
    · exact .inr h
  · rcases told_or (lessR skyL m) with ⟨h, -⟩ | ⟨h, h2⟩
    · exact .inl h
    · exact .inr ⟨h, by rw [h2]; rfl⟩
  · intro he hg
    rcases told_or (joinR l m) with ⟨h, h2, h3, h4⟩ | ⟨h, -⟩
    · rcases told_or (bothR l m) with ⟨k, k2, k3, k4⟩ | ⟨k, -⟩
      · obtain ⟨t1, t2⟩ := siz_ok h3
        obtain ⟨t3, t4⟩ := siz_ok k3
        refine ⟨t2, t4, ?_⟩
        rw [s1, s3, t1, t3, cnt_congr h4, cnt_congr k4]
        exact cnt_or _ _ _ _
      · omega
    · omega
  · intro hi
    rcases told_or (lessR skyL m) with ⟨h, h2, h3, h4⟩ | ⟨h, -⟩
    · obtain ⟨t1, t2⟩ := siz_ok h3
      have hu : ∀ x, x < 3072 → uniP (toldL (lessR skyL m)) x = !(uniP m x) := fun x hx => by
        rw [h4 x hx]; unfold lessR; rw [sky_uni hx, Bool.true_and]
      obtain ⟨q1, q2⟩ := mix_ok sky_valid h3 (lessR skyL (toldL (lessR skyL m)))
      obtain ⟨q3, q4⟩ := mix_ok hl h3 (bothR l (toldL (lessR skyL m)))
      obtain ⟨q5, q6⟩ := mix_ok hl hm (lessR l m)
      obtain ⟨w1, w2⟩ := told_self hm
      have e1 : ∀ x, x < 3072 → lessR skyL (toldL (lessR skyL m)) x = uniP m x := fun x hx => by
        have : lessR skyL (toldL (lessR skyL m)) x = (uniP skyL x && !(uniP (toldL (lessR skyL m)) x)) := rfl
        rw [this, hu x hx, sky_uni hx, Bool.not_not, Bool.true_and]
      have e2 : ∀ x, x < 3072 → bothR l (toldL (lessR skyL m)) x = lessR l m x := fun x hx => by
        have : bothR l (toldL (lessR skyL m)) x = (uniP l x && uniP (toldL (lessR skyL m)) x) := rfl
        rw [this, hu x hx]; rfl
      obtain ⟨z1, z2⟩ := told_congr e1
      obtain ⟨z3, z4⟩ := told_congr e2
      refine ⟨t2, ?_, by rw [q1, z1, w1], by rw [q2, z2, w2], by rw [q3, q5, z3], by rw [q4, q6, z4]⟩
      rw [s3, t1, cnt_congr hu]
      exact cnt_not _ _ _
    · omega
end Go.Proofs.Ytgbpmleipdecgaa
