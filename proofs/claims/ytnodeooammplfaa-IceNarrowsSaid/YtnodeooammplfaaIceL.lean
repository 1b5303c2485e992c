/- Walks over package ice and its reference: slices of integers searched by a closure; the middle; the reference's light. -/
import Derived.Test.YtnodeooammplfaaIceK
namespace Go.Proofs.Ytnodeooammplfaa
set_option linter.unusedVariables false
open Go.RowKit

/-- a closure that tells of the integers of a list -/
def PredV (g : Nat) (lb : Array Value) (p : Int → Bool) (l : List Int) (w : World) : Prop :=
  ∀ (W : World) (i : Nat), Below w.heap.size w W → i < l.length → Calls Try.prog g (#[.int .i64 (ix l i)] ++ lb) W fun e w' => e = .returned (.bool (p (ix l i))) ∧ Below W.heap.size W w'

theorem IndexFuncC_any (g : Nat) (lb : Array Value) (A : Option Addr) (c : Nat) (l : List Int) (p : Int → Bool) (w : World) (hr : RdI w w.heap.size A l) (hl : l.length ≤ 1000000)
  (eg : ∀ args w, (callFunc g args).run Try.prog w = .ok (.enter g args) w) (hp : PredV g lb p l w) :
    Calls Try.prog 78 #[.slice A l.length c, .func (.func g) #[] lb] w fun e w' => e = .returned (.int .i64 (idxF (fun k => p (ix l k)) l.length)) ∧ Below w.heap.size w w' := by
  have HP := Lib.hid hp; clear hp
  unfold PredV at HP
  have HR := Lib.hid hr; clear hr
  generalize hq : idxF (fun k => p (ix l k)) l.length = res
  have HQ := Lib.hid hq; clear hq
  generalize hn : l.length = n at *
  have HN := Lib.hid hn; clear hn
  go_enter Try.func78, Try.ntmps78
  go_wp2
  go_loopg [8] n (fun k s wr => ∃ i : Nat, s = .int .i64 i ∧ i ≤ n ∧ n - i ≤ k ∧ Below w.heap.size w wr ∧ Aside (∀ t, t < i → p (ix l t) = false))
  case atStart => exact ⟨0, rfl, by omega, by omega, Below.refl _ _, (fun t ht => absurd ht (Nat.not_lt_zero t) : ∀ t, t < 0 → p (ix l t) = false)⟩
  case round =>
    obtain ⟨i, rfl, hi, hk, hB, HA⟩ := hrel
    by_cases hlt : i < n
    · obtain ⟨b, o, rfl, hb, c1⟩ := HR.out.at_ (k := i) (by rw [HN.out]; exact hlt)
      rw [← hB.cell hb] at c1
      have hcall := HP.out wr i hB (by first | exact hlt | (rw [HN.out]; exact hlt))
      cases hpi : p (ix l i)
      all_goals
        rw [hpi] at hcall
        have HPI := Lib.hid hpi; clear hpi
        go_wp2_with (go_at_fn g; refine hcall.mono ?_; rintro e w' ⟨rfl, hB'⟩)
      · go_roundg (n - (i + 1))
        case measure => omega
        case rel => exact ⟨i + 1, by go_num, by omega, by omega, hB.trs hB', fun t ht => by
            rcases Nat.lt_succ_iff_lt_or_eq.1 ht with h | rfl
            · exact HA.out t h
            · exact HPI.out⟩
      · go_ret
        exact ⟨ret_int (by rw [← HQ.out]; exact (idxF_hit hlt HPI.out HA.out).symm), hB.trs hB'⟩
    · obtain rfl : i = n := by omega
      go_wp2
      go_ret
      exact ⟨ret_int (by rw [← HQ.out]; exact (idxF_miss HA.out).symm), hB⟩

theorem IndexFuncI_any (g : Nat) (lb : Array Value) (A : Option Addr) (c : Nat) (l : List Int) (p : Int → Bool) (w : World) (hr : RdI w w.heap.size A l) (hl : l.length ≤ 1000000)
  (eg : ∀ args w, (callFunc g args).run Try.prog w = .ok (.enter g args) w) (hp : PredV g lb p l w) :
    Calls Try.prog 113 #[.slice A l.length c, .func (.func g) #[] lb] w fun e w' => e = .returned (.int .i64 (idxF (fun k => p (ix l k)) l.length)) ∧ Below w.heap.size w w' := by
  have HP := Lib.hid hp; clear hp
  unfold PredV at HP
  have HR := Lib.hid hr; clear hr
  generalize hq : idxF (fun k => p (ix l k)) l.length = res
  have HQ := Lib.hid hq; clear hq
  generalize hn : l.length = n at *
  have HN := Lib.hid hn; clear hn
  go_enter Try.func113, Try.ntmps113
  go_wp2
  go_loopg [8] n (fun k s wr => ∃ i : Nat, s = .int .i64 i ∧ i ≤ n ∧ n - i ≤ k ∧ Below w.heap.size w wr ∧ Aside (∀ t, t < i → p (ix l t) = false))
  case atStart => exact ⟨0, rfl, by omega, by omega, Below.refl _ _, (fun t ht => absurd ht (Nat.not_lt_zero t) : ∀ t, t < 0 → p (ix l t) = false)⟩
  case round =>
    obtain ⟨i, rfl, hi, hk, hB, HA⟩ := hrel
    by_cases hlt : i < n
    · obtain ⟨b, o, rfl, hb, c1⟩ := HR.out.at_ (k := i) (by rw [HN.out]; exact hlt)
      rw [← hB.cell hb] at c1
      have hcall := HP.out wr i hB (by first | exact hlt | (rw [HN.out]; exact hlt))
      cases hpi : p (ix l i)
      all_goals
        rw [hpi] at hcall
        have HPI := Lib.hid hpi; clear hpi
        go_wp2_with (go_at_fn g; refine hcall.mono ?_; rintro e w' ⟨rfl, hB'⟩)
      · go_roundg (n - (i + 1))
        case measure => omega
        case rel => exact ⟨i + 1, by go_num, by omega, by omega, hB.trs hB', fun t ht => by
            rcases Nat.lt_succ_iff_lt_or_eq.1 ht with h | rfl
            · exact HA.out t h
            · exact HPI.out⟩
      · go_ret
        exact ⟨ret_int (by rw [← HQ.out]; exact (idxF_hit hlt HPI.out HA.out).symm), hB.trs hB'⟩
    · obtain rfl : i = n := by omega
      go_wp2
      go_ret
      exact ⟨ret_int (by rw [← HQ.out]; exact (idxF_miss HA.out).symm), hB⟩

theorem ContainsFuncI_any (g : Nat) (lb : Array Value) (A : Option Addr) (c : Nat) (l : List Int) (p : Int → Bool) (w : World) (hr : RdI w w.heap.size A l) (hl : l.length ≤ 1000000)
  (eg : ∀ args w, (callFunc g args).run Try.prog w = .ok (.enter g args) w) (hp : PredV g lb p l w) :
    Calls Try.prog 107 #[.slice A l.length c, .func (.func g) #[] lb] w fun e w' => e = .returned (.bool (anyF (fun k => p (ix l k)) l.length)) ∧ Below w.heap.size w w' := by
  have HI := Lib.hid (IndexFuncI_any g lb A c l p w hr hl eg hp)
  unfold anyF
  clear hr hp
  generalize idxF (fun k => p (ix l k)) l.length = r at *
  generalize l.length = n at *
  go_enter Try.func107, Try.ntmps107
  go_wp2_with (go_at_call 113; refine HI.out.mono ?_; rintro e w1 ⟨rfl, h1⟩)
  go_ret
  exact ⟨rfl, h1⟩

/-! ### Down, Up -/
def DownV (L : List (Int × Int)) (a s : Int) : Value := .tuple #[.int .i64 (val (LitE L a s) (dn (mets L) a.toNat s)), .int .i64 (LitE L a s)]
def UpV (L : List (Int × Int)) (a s : Int) : Value := .tuple #[.int .i64 (val (LitE L a s) (up (mets L) a.toNat s)), .int .i64 (LitE L a s)]
theorem Down_any (A : Option Addr) (c : Nat) (L : List (Int × Int)) (x s : Int) (w : World) (hr : RdP w w.heap.size A L) (hl : L.length ≤ 1125899906842624) :
    Calls Try.prog 39 #[.slice A L.length c, .int .i64 x, .int .i64 s] w fun e w' => e = .returned (DownV L x s) ∧ Below w.heap.size w w' := by
  have H := Lib.hid (Lit_any A c L x s w hr hl)
  unfold LitV at H
  unfold DownV
  clear hr
  go_enter Try.func39, Try.ntmps39
  go_wp2_with (go_at_call 34; refine H.out.mono ?_; rintro e w1 ⟨rfl, h1⟩)
  go_ret2
  exact ⟨rfl, h1⟩
theorem Up_any (A : Option Addr) (c : Nat) (L : List (Int × Int)) (x s : Int) (w : World) (hr : RdP w w.heap.size A L) (hl : L.length ≤ 1125899906842624) :
    Calls Try.prog 41 #[.slice A L.length c, .int .i64 x, .int .i64 s] w fun e w' => e = .returned (UpV L x s) ∧ Below w.heap.size w w' := by
  have H := Lib.hid (Lit_any A c L x s w hr hl)
  unfold LitV at H
  unfold UpV
  clear hr
  go_enter Try.func41, Try.ntmps41
  go_wp2_with (go_at_call 34; refine H.out.mono ?_; rintro e w1 ⟨rfl, h1⟩)
  go_ret2
  exact ⟨rfl, h1⟩

/-! ### the middle -/
def midI (l : List Int) : Int := idxF (fun k => decide (cm l l.length - cm l k ≤ cm l k)) (l.length + 1)
theorem mid_is {l : List Int} (h : ∀ d ∈ l, 0 ≤ d) : ∃ r : Nat, r ≤ l.length ∧ midI l = r ∧ cm l l.length - cm l r ≤ cm l r ∧ ∀ k, k < r → cm l k < cm l l.length - cm l k := by
  unfold midI
  rcases idxF_cases (fun k => decide (cm l l.length - cm l k ≤ cm l k)) (l.length + 1) with ⟨i, h1, h2, h3, h4⟩ | ⟨h3, h4⟩
  · simp only [decide_eq_true_eq, decide_eq_false_iff_not] at h2 h3
    exact ⟨i, by omega, h4, h2, fun k hk => by have := h3 k hk; omega⟩
  · have := h3 l.length (by omega)
    simp only [decide_eq_false_iff_not] at this
    have := sum_nn h
    have e : cm l l.length = l.sum := by unfold cm; rw [List.take_length]
    omega
theorem Middle1_any (A : Option Addr) (n c b1 : Nat) (l : List Int) (x : Int) (w : World) (hn : n + 1 = l.length) (hc1 : w.cell? ⟨b1, 0, none⟩ = some (.slice A (n + 1) c)) (hr : RdI w w.heap.size A l) (hl : n ≤ 1000) (hv : ∀ k, 0 ≤ ix l k ∧ ix l k ≤ 60000) (hx : 0 ≤ x ∧ x ≤ 60000) :
    Calls Try.prog 79 #[.int .i64 x, .pointer (some ⟨b1, 0, none⟩)] w fun e w' => e = .returned (.bool (decide (ix l n - x ≤ x))) ∧ Below w.heap.size w w' := by
  obtain ⟨b, o, rfl, hb, q1⟩ := hr.at_ (k := n) (by omega)
  have v1 := hv n
  have HN := Lib.hid hn; clear hn hr hv
  generalize ix l n = y at *
  have w1 : IntKind.i64.wrap (y - x) = y - x := IntWalk.i64_in _ (by omega)
  have HD := Lib.hid (fun W => depth_any (some ⟨b, o, none⟩) (n + 1) c W (by omega))
  rw [show (((n + 1 : Nat) : Int) - 1) = (n : Int) by omega] at HD
  have i1 : (n : Int) < ((n + 1 : Nat) : Int) := by omega
  have i0 : (0 : Int) ≤ (n : Int) := by omega
  go_enter Try.func79, Try.ntmps79
  go_wp2
  go_quiet ((go_at_call 60; exact quiet_left (HD.out _)))
  go_wp2
  go_ret
  exact ⟨rfl, (Below.refl _ _).drewsN _⟩

theorem Middle_any (A : Option Addr) (c : Nat) (L : List (Int × Int)) (w : World) (hr : RdP w w.heap.size A L) (hl : L.length ≤ 1125899906842624) :
    Calls Try.prog 35 #[.slice A L.length c] w fun e w' => e = .returned (.tuple #[.int .i64 (val (gate (vld L) true) (midI (mets L))), .int .i64 (gate (vld L) true)]) ∧ Below w.heap.size w w' := by
  have HO := Lib.hid (open_any A c L w hr hl)
  have H1 : Hid (vld L = false → Ending.returned (.tuple #[.int .i64 0, .int .i64 40]) = .returned (.tuple #[.int .i64 (val (gate (vld L) true) (midI (mets L))), .int .i64 (gate (vld L) true)])) := fun h => ret_no (by rw [gate_bad h]; decide) (gate_bad h).symm
  have H2 : Hid (vld L = true → ∀ y, y = midI (mets L) → Ending.returned (.tuple #[.int .i64 y, .int .i64 0]) = .returned (.tuple #[.int .i64 (val (gate (vld L) true) (midI (mets L))), .int .i64 (gate (vld L) true)])) := fun h y hy => ret_err h rfl rfl hy
  have H3 : Hid (vld L = true → ∀ (W : World) A' c', RdI W W.heap.size A' (cum (mets L)) → Calls Try.prog 78 #[.slice A' (cum (mets L)).length c', .func (.func 79) #[] #[.pointer (some ⟨W.heap.size, 0, none⟩)]] (W.alloc (.cells #[.slice A' (cum (mets L)).length c'] 67)) fun e w' => e = .returned (.int .i64 (midI (mets L))) ∧ Below (W.alloc (.cells #[.slice A' (cum (mets L)).length c'] 67)).heap.size (W.alloc (.cells #[.slice A' (cum (mets L)).length c'] 67)) w') := by
    intro hv W A' c' hR
    have hok := okL_of_vld hv
    have h600 := mets_len600 hok
    have hcl := cum_length (mets L)
    have hR1 := hR.on (below_alloc W (.cells #[.slice A' (cum (mets L)).length c'] 67))
    have hb := cum_bounds (mets_mem hok) h600
    have := IndexFuncC_any 79 #[.pointer (some ⟨W.heap.size, 0, none⟩)] A' c' (cum (mets L)) (fun x => decide (ix (cum (mets L)) (mets L).length - x ≤ x)) _ hR1 (by omega) (enters_of Try.func79 (by kernel_rfl) rfl) (fun W' i hW' hi => by
      have hcell : W'.cell? ⟨W.heap.size, 0, none⟩ = some (.slice A' ((mets L).length + 1) c') := by rw [hW'.cell (p := ⟨W.heap.size, 0, none⟩) (by simp), ← hcl]; exact cell_one _ _ _
      exact Middle1_any A' (mets L).length c' W.heap.size (cum (mets L)) (ix (cum (mets L)) i) W' hcl.symm hcell (hR1.on hW') (by omega) hb (hb i))
    have e : idxF (fun k => decide (ix (cum (mets L)) (mets L).length - ix (cum (mets L)) k ≤ ix (cum (mets L)) k)) (cum (mets L)).length = midI (mets L) := by
      obtain ⟨r, r1, r2, r3, r4⟩ := mid_is (l := mets L) (fun d hd => (mets_mem hok d hd).1)
      rw [r2]
      apply idxF_hit (by omega)
      · simp only [decide_eq_true_eq]; rw [cm_ix (by omega), cm_ix (by omega)]; exact r3
      · intro t ht
        simp only [decide_eq_false_iff_not]; rw [cm_ix (by omega), cm_ix (by omega)]; have := r4 t ht; omega
    rw [e] at this
    exact this
  clear hr
  generalize val (gate (vld L) true) (midI (mets L)) = rv at *
  generalize gate (vld L) true = rg at *
  generalize L.length = n at *
  go_enter Try.func35, Try.ntmps35
  go_wp2_with (first
    | (go_at_call 59; refine HO.out.mono ?_; rintro e w1 ⟨hB, ⟨hv, rfl⟩ | ⟨hv, A', c', rfl, hR⟩⟩ <;> (have HV := Lib.hid hv; clear hv))
    | (go_at_call 78; refine (H3.out HV.out _ _ _ hR).mono ?_; rintro e w2 ⟨rfl, hB2⟩))
  all_goals go_ret2
  · exact ⟨H1.out HV.out, hB.trs (below_alloc _ _)⟩
  · exact ⟨H2.out HV.out _ rfl, (hB.trs (below_alloc _ _)).trs hB2⟩

/-! ### the reference's light -/
theorem dn_step {l : List Int} {i : Nat} {s : Int} (hi : i < l.length) : dn l i s = if ix l i ≤ s then dn l (i + 1) (s - ix l i) else i := by
  unfold dn
  have e : l.drop i = ix l i :: l.drop (i + 1) := by rw [List.drop_eq_getElem_cons hi]; simp [ix, hi]
  rw [e, wk]
  split <;> omega
theorem dn_end {l : List Int} {i : Nat} {s : Int} (hi : l.length ≤ i) : dn l i s = i := by
  unfold dn; rw [List.drop_of_length_le hi, wk]; rfl
theorem up_step {l : List Int} {i : Nat} {s : Int} (hi : i < l.length) : up l (i + 1) s = if ix l i ≤ s then up l i (s - ix l i) else i + 1 := by
  unfold up
  have e : (l.take (i + 1)).reverse = ix l i :: (l.take i).reverse := by
    rw [List.take_succ_eq_append_getElem hi, List.reverse_append]; simp [ix, hi]
  rw [e, wk]
  split
  · have := wk_le (l.take i).reverse (s - ix l i)
    simp at this
    omega
  · omega
theorem up_zero (l : List Int) (s : Int) : up l 0 s = 0 := by unfold up; omega

theorem refdown_any (A : Option Addr) (c : Nat) (l : List Int) (a : Nat) (s : Int) (w : World) (hr : RdI w w.heap.size A l) (hm : ∀ k, 0 ≤ ix l k ∧ ix l k ≤ 100) (hl : l.length ≤ 600) (ha : a ≤ l.length) (hs : 0 ≤ s) (hs2 : s ≤ 1000000) :
    Calls Try.prog 86 #[.slice A l.length c, .int .i64 a, .int .i64 s] w fun e w' => e = .returned (.int .i64 (dn l a s)) ∧ w = w' := by
  have HR := Lib.hid hr; clear hr
  have HM := Lib.hid hm; clear hm
  have HS := Lib.hid (fun i s => dn_step (l := l) (i := i) (s := s))
  have HE := Lib.hid (fun i s => dn_end (l := l) (i := i) (s := s))
  generalize hd : dn l a s = r
  have HD := Lib.hid hd; clear hd
  generalize hn : l.length = n at *
  have HN := Lib.hid hn; clear hn
  go_enter Try.func86, Try.ntmps86
  go_wp2
  go_loopg [1, 2] n (fun k u v wr => ∃ (i : Nat) (t : Int), u = .int .i64 i ∧ v = .int .i64 t ∧ i ≤ n ∧ 0 ≤ t ∧ t ≤ 1000000 ∧ n - i ≤ k ∧ Hid (dn l i t = r) ∧ w = wr)
  case atStart => exact ⟨a, s, rfl, rfl, ha, hs, hs2, by omega, HD, rfl⟩
  case round =>
    obtain ⟨i, t, rfl, rfl, hi, ht, ht2, hk, hQ, rfl⟩ := hrel
    by_cases hlt : i < n
    · obtain ⟨b, o, rfl, hb, c1⟩ := HR.out.at_ (k := i) (by rw [HN.out]; exact hlt)
      have hst := HS.out i t (by first | exact hlt | (rw [HN.out]; exact hlt))
      have hv := HM.out i
      rw [hQ.out] at hst
      by_cases hle : ix l i ≤ t
      · rw [if_pos hle] at hst
        have HST := Lib.hid hst; clear hst hQ
        generalize ix l i = x at *
        go_wp2
        go_roundg (n - (i + 1))
        case measure => omega
        case rel => exact ⟨i + 1, t - x, by go_num, rfl, by omega, by omega, by omega, by omega, Lib.hid HST.out.symm, rfl⟩
      · rw [if_neg hle] at hst
        have HST := Lib.hid hst; clear hst hQ
        generalize ix l i = x at *
        go_wp2
        go_ret
        exact ⟨ret_int (by rw [HST.out]), rfl⟩
    · have hst := HE.out i t (by first | omega | (rw [HN.out]; omega))
      rw [hQ.out] at hst
      have HST := Lib.hid hst; clear hst hQ
      obtain rfl : i = n := by omega
      go_wp2
      go_ret
      exact ⟨ret_int (by rw [HST.out]), rfl⟩

theorem refup_any (A : Option Addr) (c : Nat) (l : List Int) (a : Nat) (s : Int) (w : World) (hr : RdI w w.heap.size A l) (hm : ∀ k, 0 ≤ ix l k ∧ ix l k ≤ 100) (hl : l.length ≤ 600) (ha : a ≤ l.length) (hs : 0 ≤ s) (hs2 : s ≤ 1000000) :
    Calls Try.prog 85 #[.slice A l.length c, .int .i64 a, .int .i64 s] w fun e w' => e = .returned (.int .i64 (up l a s)) ∧ w = w' := by
  have HR := Lib.hid hr; clear hr
  have HM := Lib.hid hm; clear hm
  have HS := Lib.hid (fun i s => up_step (l := l) (i := i) (s := s))
  have HE := Lib.hid (fun s => up_zero l s)
  generalize hd : up l a s = r
  have HD := Lib.hid hd; clear hd
  generalize hn : l.length = n at *
  have HN := Lib.hid hn; clear hn
  go_enter Try.func85, Try.ntmps85
  go_wp2
  go_loopg [1, 2] n (fun k u v wr => ∃ (i : Nat) (t : Int), u = .int .i64 i ∧ v = .int .i64 t ∧ i ≤ n ∧ 0 ≤ t ∧ t ≤ 1000000 ∧ i ≤ k ∧ Hid (up l i t = r) ∧ w = wr)
  case atStart => exact ⟨a, s, rfl, rfl, ha, hs, hs2, by omega, HD, rfl⟩
  case round =>
    obtain ⟨i, t, rfl, rfl, hi, ht, ht2, hk, hQ, rfl⟩ := hrel
    cases i with
    | zero =>
      have hst := HE.out t
      rw [hQ.out] at hst
      have HST := Lib.hid hst; clear hst hQ
      go_wp2
      go_ret
      exact ⟨ret_int (by rw [HST.out]; first | done | rfl), rfl⟩
    | succ i =>
      have hlt : i < n := by omega
      obtain ⟨b, o, rfl, hb, c1⟩ := HR.out.at_ (k := i) (by rw [HN.out]; exact hlt)
      have hst := HS.out i t (by first | exact hlt | (rw [HN.out]; exact hlt))
      have hv := HM.out i
      rw [hQ.out] at hst
      have e1 : ((i + 1 : Nat) : Int) = (i : Int) + 1 := by omega
      rw [e1]
      by_cases hle : ix l i ≤ t
      · rw [if_pos hle] at hst
        have HST := Lib.hid hst; clear hst hQ
        generalize ix l i = x at *
        go_wp2
        go_roundg i
        case measure => omega
        case rel => exact ⟨i, t - x, by first | rfl | go_num, rfl, by omega, by omega, by omega, by omega, Lib.hid HST.out.symm, rfl⟩
      · rw [if_neg hle] at hst
        have HST := Lib.hid hst; clear hst hQ
        generalize ix l i = x at *
        go_wp2
        go_ret
        exact ⟨ret_int (by rw [HST.out]; omega), rfl⟩
end Go.Proofs.Ytnodeooammplfaa
