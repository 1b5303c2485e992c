/- What the law of coarse cells compares: plain. -/
import Derived.Test.YtolgpigdioanoaaSkyCo
import Derived.Test.YtolgpigdioanoaaSkyEa
namespace Go.Proofs.Ytolgpigdioanoaa
set_option linter.unusedSimpArgs false
set_option linter.unusedVariables false

structure CoverR (l : List (Int × Int)) (k : Int) (C : List (Int × Int)) : Prop where
  lenC : C.length ≤ 400
  each : ∀ i, i < l.length → hasE l (pa l i) (pb l i) = 0 ∧ hasB l (pa l i) (pb l i) = true ∧ hasE C (pa l i) (pb l i) = 0 ∧ hasB C (pa l i) (pb l i) = true
  cell : ∀ q, okP k q = true → mixE l [(k, q)] (bothR l [(k, q)]) = 0 ∧ hasE C k q = 0 ∧ (mixE C [(k, q)] (bothR C [(k, q)]) = 0 ∨ mixE C [(k, q)] (bothR C [(k, q)]) = 4) ∧
    hasB C k q = decide (0 < (mixL l [(k, q)] (bothR l [(k, q)])).length) ∧ (hasB C k q = false → (mixL C [(k, q)] (bothR C [(k, q)])).length = 0)
theorem cells_none {S : Px} (h : ∀ x, x < 3072 → S x = false) : cellsP S = [] := by
  rw [cells_congr (T := fun _ => false) h]
  unfold cellsP
  have : lookC (fun _ => false) 4 = fun _ => [] := funext fun p => look_none (anyP_no.2 fun _ _ => rfl)
  rw [this]
  rfl
theorem told_nil {S : Px} (h : cellsP S = []) : toldL S = [] ∧ toldE S = 0 := by
  unfold toldL toldE
  rw [h]
  exact ⟨rfl, rfl⟩
theorem cells_some {S : Px} {x : Nat} (hx : x < 3072) (h : S x = true) : 0 < (cellsP S).length := by
  cases hc : cellsP S
  · have := cells_uni S hx
    rw [hc, h] at this
    cases this
  · simp
theorem px_order {k : Int} (hk : btw 0 k 4 = true) : ((4 - k).toNat ≤ 4) ∧ (4 : Int) - ((4 - k).toNat : Int) = k := by rw [btw_iff] at hk; omega
theorem fits_of {k q : Int} (hc : okP k q = true) : ∃ n : Nat, q = n ∧ (n + 1) * 4 ^ (4 - k).toNat ≤ 3072 := by
  obtain ⟨h, n, hh, rfl, rfl, hn⟩ := okP_form hc
  exact ⟨n, rfl, by rw [show ((4 : Int) - (4 - (h : Int))).toNat = h by omega]; exact hn⟩
theorem allC_iff {S : Px} {k q : Int} (hc : okP k q = true) : allC S k q = true ↔ ∀ x, inC (k, q) x = true → S x = true := by
  obtain ⟨h, n, hh, rfl, rfl, hn⟩ := okP_form hc
  unfold allC
  rw [show ((4 : Int) - (4 - (h : Int))).toNat = h by omega, Int.toNat_natCast, allP_iff]
  constructor
  · intro ha x hx
    obtain ⟨c1, c2⟩ := inC_block.1 hx
    have := ha (x - n * 4 ^ h) (by omega)
    rwa [show n * 4 ^ h + (x - n * 4 ^ h) = x by omega] at this
  · intro ha j hj
    exact ha _ (inC_block.2 ⟨by omega, by omega⟩)
theorem inC_lt {k q : Int} (hc : okP k q = true) {x : Nat} (hx : inC (k, q) x = true) : x < 3072 := by
  obtain ⟨h, n, hh, rfl, rfl, hn⟩ := okP_form hc
  obtain ⟨c1, c2⟩ := inC_block.1 hx
  rw [Nat.add_mul] at hn
  omega
theorem inC_some {k q : Int} (hc : okP k q = true) : ∃ x, inC (k, q) x = true := by
  obtain ⟨h, n, hh, rfl, rfl, hn⟩ := okP_form hc
  exact ⟨n * 4 ^ h, inC_block.2 ⟨by omega, by have := four_pos h; omega⟩⟩
theorem coar_yes {U : Px} {h x y : Nat} (hy : U y = true) (e : x / 4 ^ h = y / 4 ^ h) : coarP U h x = true := by
  show anyP U (x / 4 ^ h * 4 ^ h) (4 ^ h) = true
  cases ha : anyP U (x / 4 ^ h * 4 ^ h) (4 ^ h)
  · have := anyP_no.1 ha (y % 4 ^ h) (Nat.mod_lt _ (four_pos h))
    rw [e, Nat.mul_comm, Nat.div_add_mod, hy] at this
    cases this
  · rfl
theorem coar_no {U : Px} {h x : Nat} (hn : ∀ y, y / 4 ^ h = x / 4 ^ h → U y = false) : coarP U h x = false := by
  show anyP U (x / 4 ^ h * 4 ^ h) (4 ^ h) = false
  refine anyP_no.2 fun j hj => hn _ ?_
  have hp := four_pos h
  rw [Nat.mul_comm, Nat.mul_add_div hp, Nat.div_eq_of_lt hj]
  omega
theorem uni_one (k q : Int) (x : Nat) : uniP [(k, q)] x = inC (k, q) x := by simp [uniP]
theorem uni_at {l : List (Int × Int)} {i x : Nat} (hi : i < l.length) (hx : inC (pa l i, pb l i) x = true) : uniP l x = true := by
  unfold uniP
  rw [List.any_eq_true]
  refine ⟨l[i], List.getElem_mem hi, ?_⟩
  have : (pa l i, pb l i) = l[i] := by simp [pa, pb, hi]
  rw [← this]
  exact hx
theorem has_yes {l : List (Int × Int)} {k q : Int} (hl : vldC l = true) (hc : okP k q = true) : hasE l k q = 0 ∧ hasB l k q = allC (uniP l) k q := by
  unfold hasE hasB
  rw [hl, hc]
  exact ⟨rfl, rfl⟩
theorem covers {l : List (Int × Int)} {k : Int} (hl : vldC l = true) (hk : btw 0 k 4 = true) (he : coarE l k = 0) : CoverR l k (coarL l k) := by
  have hE : coarE l k = toldE (coarP (uniP l) (4 - k).toNat) := by unfold coarE; rw [hl, hk]; rfl
  have hL : coarL l k = toldL (coarP (uniP l) (4 - k).toNat) := by unfold coarL; rw [hl, hk]; rfl
  obtain ⟨hh, hkk⟩ := px_order hk
  obtain ⟨hv1, hv2, hv3⟩ := vldC_iff.1 hl
  rw [hL]
  rcases told_or (coarP (uniP l) (4 - k).toNat) with ⟨h1, h2, h3, h4⟩ | ⟨h1, -⟩
  · refine ⟨toldL_len _, fun i hi => ?_, fun q hq => ?_⟩
    · have hc := badB_no hv2 i hi
      obtain ⟨e1, e2⟩ := has_yes hl hc
      obtain ⟨e3, e4⟩ := has_yes h3 hc
      refine ⟨e1, by rw [e2, allC_iff hc]; exact fun x hx => uni_at hi hx, e3, ?_⟩
      rw [e4, allC_iff hc]
      intro x hx
      rw [h4 x (inC_lt hc hx)]
      exact coar_yes (uni_at hi hx) rfl
    · obtain ⟨n, rfl, hn⟩ := fits_of hq
      have hone := one_valid hq
      obtain ⟨m1, m2⟩ := mix_ok hl hone (bothR l [(k, (n : Int))])
      obtain ⟨m3, m4⟩ := mix_ok h3 hone (bothR (toldL (coarP (uniP l) (4 - k).toNat)) [(k, (n : Int))])
      obtain ⟨e3, e4⟩ := has_yes h3 hq
      have hcut : ∀ x, x < 3072 → bothR l [(k, (n : Int))] x = (uniP l x && inC (4 - ((4 - k).toNat : Int), (n : Int)) x) := fun x _ => by
        rw [hkk]
        show (uniP l x && uniP [(k, (n : Int))] x) = _
        rw [uni_one]
      have hlen := cut_len (U := uniP l) hh hn
      rw [← cells_congr hcut, hv3] at hlen
      have hsmall : toldE (bothR l [(k, (n : Int))]) = 0 ∧ toldL (bothR l [(k, (n : Int))]) = cellsP (bothR l [(k, (n : Int))]) := by
        unfold toldE toldL
        rw [if_neg (by omega), if_neg (by omega)]
        exact ⟨rfl, rfl⟩
      rw [m1, m2, m3, m4, e4, hsmall.1, hsmall.2]
      have hdiv : ∀ x y, inC (k, (n : Int)) x = true → inC (k, (n : Int)) y = true → x / 4 ^ (4 - k).toNat = y / 4 ^ (4 - k).toNat := fun x y hx hy => by
        rw [← hkk] at hx hy
        rw [inC_mk, decide_eq_true_eq] at hx hy
        rw [hx, hy]
      have hdiv2 : ∀ x y, inC (k, (n : Int)) x = true → y / 4 ^ (4 - k).toNat = x / 4 ^ (4 - k).toNat → inC (k, (n : Int)) y = true := fun x y hx hy => by
        rw [← hkk] at hx ⊢
        rw [inC_mk, decide_eq_true_eq] at hx ⊢
        rw [hy, hx]
      by_cases hex : ∃ y, inC (k, (n : Int)) y = true ∧ uniP l y = true
      · obtain ⟨y, hy1, hy2⟩ := hex
        have hall : allC (uniP (toldL (coarP (uniP l) (4 - k).toNat))) k n = true := (allC_iff hq).2 fun x hx => by
          rw [h4 x (inC_lt hq hx)]
          exact coar_yes hy2 (hdiv x y hx hy1)
        have hpos : 0 < (cellsP (bothR l [(k, (n : Int))])).length := cells_some (inC_lt hq hy1) (by
          show (uniP l y && uniP [(k, (n : Int))] y) = true
          rw [uni_one, hy1, hy2]; rfl)
        refine ⟨rfl, e3, ?_, by rw [hall, decide_eq_true hpos], fun h => by rw [hall] at h; cases h⟩
        rcases told_or (bothR (toldL (coarP (uniP l) (4 - k).toNat)) [(k, (n : Int))]) with ⟨t, -⟩ | ⟨t, -⟩
        · exact .inl t
        · exact .inr t
      · have hno : ∀ y, inC (k, (n : Int)) y = true → uniP l y = false := fun y hy => by
          cases hu : uniP l y
          · rfl
          · exact absurd ⟨y, hy, hu⟩ hex
        have hcf : ∀ x, inC (k, (n : Int)) x = true → uniP (toldL (coarP (uniP l) (4 - k).toNat)) x = false := fun x hx => by
          rw [h4 x (inC_lt hq hx)]
          exact coar_no fun y hy => hno y (hdiv2 x y hx hy)
        obtain ⟨x0, hx0⟩ := inC_some hq
        have hall : allC (uniP (toldL (coarP (uniP l) (4 - k).toNat))) k n = false := by
          rw [Bool.eq_false_iff]
          intro ha
          have := (allC_iff hq).1 ha x0 hx0
          rw [hcf x0 hx0] at this
          cases this
        have hz1 : cellsP (bothR l [(k, (n : Int))]) = [] := cells_none fun x hx => by
          show (uniP l x && uniP [(k, (n : Int))] x) = false
          rw [uni_one]
          cases hi : inC (k, (n : Int)) x
          · rw [Bool.and_false]
          · rw [hno x hi]; rfl
        have hz2 : cellsP (bothR (toldL (coarP (uniP l) (4 - k).toNat)) [(k, (n : Int))]) = [] := cells_none fun x hx => by
          show (uniP (toldL (coarP (uniP l) (4 - k).toNat)) x && uniP [(k, (n : Int))] x) = false
          rw [uni_one]
          cases hi : inC (k, (n : Int)) x
          · rw [Bool.and_false]
          · rw [hcf x hi]; rfl
        refine ⟨rfl, e3, .inl (told_nil hz2).2, by rw [hall, hz1]; rfl, fun _ => by rw [(told_nil hz2).1]; rfl⟩
  · rw [hE] at he; omega
theorem coar_or {l : List (Int × Int)} {k : Int} (hl : vldC l = true) (hk : btw 0 k 4 = true) : coarE l k = 0 ∨ (coarE l k = 4 ∧ (coarL l k).length = 0) := by
  have hE : coarE l k = toldE (coarP (uniP l) (4 - k).toNat) := by unfold coarE; rw [hl, hk]; rfl
  have hL : coarL l k = toldL (coarP (uniP l) (4 - k).toNat) := by unfold coarL; rw [hl, hk]; rfl
  rw [hE, hL]
  rcases told_or (coarP (uniP l) (4 - k).toNat) with ⟨h1, -⟩ | ⟨h1, h2⟩
  · exact .inl h1
  · exact .inr ⟨h1, by rw [h2]; rfl⟩
end Go.Proofs.Ytolgpigdioanoaa
