/- Walks over package ice: the search, how far light comes down and up. -/
import Derived.Test.YtnodeooammplfaaIceI
import Derived.Test.YtnodeooammplfaaIceLaw3
namespace Go.Proofs.Ytnodeooammplfaa
set_option linter.unusedVariables false
open Go.RowKit

/-- a closure that tells of a number from 0 on -/
def PredN (g : Nat) (lb : Array Value) (p : Nat → Bool) (n : Nat) (w : World) : Prop :=
  ∀ (W : World) (i : Nat), Below w.heap.size w W → i < n → Calls Try.prog g (#[.int .i64 i] ++ lb) W fun e w' => e = .returned (.bool (p i)) ∧ Below W.heap.size W w'

theorem Search_any (g : Nat) (lb : Array Value) (p : Nat → Bool) (n r : Nat) (w : World) (eg : ∀ args w, (callFunc g args).run Try.prog w = .ok (.enter g args) w) (hn : n ≤ 1000000) (hp : PredN g lb p n w) (hr : r ≤ n)
    (h0 : ∀ i, i < r → p i = false) (h1 : ∀ i, r ≤ i → i < n → p i = true) :
    Calls Try.prog 81 #[.int .i64 n, .func (.func g) #[] lb] w fun e w' => e = .returned (.int .i64 r) ∧ Below w.heap.size w w' := by
  have HP := Lib.hid hp; clear hp
  unfold PredN at HP
  have H0 := Lib.hid h0; clear h0
  have H1 := Lib.hid h1; clear h1
  go_enter Try.func81, Try.ntmps81
  go_wp2
  go_loopg [5, 6] n (fun kk s t wr => ∃ i j : Nat, s = .int .i64 i ∧ t = .int .i64 j ∧ i ≤ r ∧ r ≤ j ∧ j ≤ n ∧ j - i ≤ kk ∧ Below w.heap.size w wr)
  case atStart => exact ⟨0, n, rfl, rfl, by omega, hr, by omega, by omega, Below.refl _ _⟩
  case round =>
    obtain ⟨i, j, rfl, rfl, hi, hj, hjn, hk, hB⟩ := hrel
    have HB := Lib.hid hB; clear hB
    by_cases hlt : i < j
    · obtain ⟨h, hh⟩ : ∃ h, h = (i + j) / 2 := ⟨_, rfl⟩
      have HPh := Lib.hid (fun W (hW : Below w.heap.size w W) => HP.out W h hW (by omega))
      have e1 : (i : Int) + (j : Int) = ((i + j : Nat) : Int) := by push_cast; rfl
      have e2 : ((i : Int) + (j : Int)) / 2 = (h : Int) := by rw [e1, hh]; rfl
      have e3 : ((i + j : Nat) : Int) / 2 = (h : Int) := by rw [hh]; rfl
      cases hph : p h
      · have hrh : h < r := by
          apply Classical.byContradiction; intro hc
          have := H1.out h (by omega) (by omega)
          rw [hph] at this; cases this
        rw [hph] at HPh
        clear hph
        have hhb : i ≤ h ∧ h < j := by omega
        clear hh e1
        go_wp2_with (go_at_fn g; refine (HPh.out _ HB.out).mono ?_; rintro e w1 ⟨rfl, h1⟩)
        go_roundg (j - (h + 1))
        case measure => omega
        case rel => exact ⟨h + 1, j, by go_num, rfl, by omega, by omega, by omega, by omega, HB.out.trs h1⟩
      · have hrh : r ≤ h := by
          apply Classical.byContradiction; intro hc
          have := H0.out h (by omega)
          rw [hph] at this; cases this
        rw [hph] at HPh
        clear hph
        have hhb : i ≤ h ∧ h < j := by omega
        clear hh e1
        go_wp2_with (go_at_fn g; refine (HPh.out _ HB.out).mono ?_; rintro e w1 ⟨rfl, h1⟩)
        go_roundg (h - i)
        case measure => omega
        case rel => exact ⟨i, h, rfl, rfl, by omega, by omega, by omega, by omega, HB.out.trs h1⟩
    · obtain rfl : i = r := by omega
      go_wp2
      go_ret
      exact ⟨rfl, HB.out⟩

theorem down1_any (A : Option Addr) (c n b1 b2 b3 : Nat) (l : List Int) (a d : Nat) (s : Int) (w : World) (hn : n = l.length) (hc1 : w.cell? ⟨b1, 0, none⟩ = some (.slice A n c)) (hc2 : w.cell? ⟨b2, 0, none⟩ = some (.int .i64 a)) (hc3 : w.cell? ⟨b3, 0, none⟩ = some (.int .i64 s))
    (hr : RdI w w.heap.size A l) (ha : a < n) (hd : d < n) (hl : n ≤ 1000000) (hv : ∀ k, 0 ≤ ix l k ∧ ix l k ≤ 60000) (hs : 0 ≤ s) (hs2 : s ≤ 1000000) :
    Calls Try.prog 105 #[.int .i64 d, .pointer (some ⟨b1, 0, none⟩), .pointer (some ⟨b2, 0, none⟩), .pointer (some ⟨b3, 0, none⟩)] w fun e w' => e = .returned (.bool (decide (ix l a + s < ix l d))) ∧ Below w.heap.size w w' := by
  obtain ⟨b, o, rfl, hb, q1⟩ := hr.at_ (k := a) (by omega)
  obtain ⟨b', o', he, _, q2⟩ := hr.at_ (k := d) (by omega)
  injection he with he
  injection he with x1 x2 _
  subst x1; subst x2
  have v1 := hv a
  have v2 := hv d
  have HN := Lib.hid hn; clear hn hr hv
  have i1 : (0 : Int) ≤ (a : Int) := by omega
  have i2 : (a : Int) < (n : Int) := by omega
  have i3 : (0 : Int) ≤ (d : Int) := by omega
  have i4 : (d : Int) < (n : Int) := by omega
  generalize ix l a = x at *
  generalize ix l d = y at *
  have w1 : IntKind.i64.wrap (x + s) = x + s := IntWalk.i64_in _ (by omega)
  go_enter Try.func105, Try.ntmps105
  go_wp2
  go_quiet (fail)
  go_wp2
  go_ret
  exact ⟨rfl, (Below.refl _ _).drewsN _⟩

theorem up1_any (A : Option Addr) (c n b1 b2 b3 : Nat) (l : List Int) (a d : Nat) (s : Int) (w : World) (hn : n = l.length) (hc1 : w.cell? ⟨b1, 0, none⟩ = some (.slice A n c)) (hc2 : w.cell? ⟨b2, 0, none⟩ = some (.int .i64 a)) (hc3 : w.cell? ⟨b3, 0, none⟩ = some (.int .i64 s))
    (hr : RdI w w.heap.size A l) (ha : a < n) (hd : d < n) (hl : n ≤ 1000000) (hv : ∀ k, 0 ≤ ix l k ∧ ix l k ≤ 60000) :
    Calls Try.prog 104 #[.int .i64 d, .pointer (some ⟨b1, 0, none⟩), .pointer (some ⟨b2, 0, none⟩), .pointer (some ⟨b3, 0, none⟩)] w fun e w' => e = .returned (.bool (decide (ix l a - ix l d ≤ s))) ∧ Below w.heap.size w w' := by
  obtain ⟨b, o, rfl, hb, q1⟩ := hr.at_ (k := a) (by omega)
  obtain ⟨b', o', he, _, q2⟩ := hr.at_ (k := d) (by omega)
  injection he with he
  injection he with x1 x2 _
  subst x1; subst x2
  have v1 := hv a
  have v2 := hv d
  have HN := Lib.hid hn; clear hn hr hv
  have i1 : (0 : Int) ≤ (a : Int) := by omega
  have i2 : (a : Int) < (n : Int) := by omega
  have i3 : (0 : Int) ≤ (d : Int) := by omega
  have i4 : (d : Int) < (n : Int) := by omega
  generalize ix l a = x at *
  generalize ix l d = y at *
  have w1 : IntKind.i64.wrap (x - y) = x - y := IntWalk.i64_in _ (by omega)
  go_enter Try.func104, Try.ntmps104
  go_wp2
  go_quiet (fail)
  go_wp2
  go_ret
  exact ⟨rfl, (Below.refl _ _).drewsN _⟩

/-- the three cells of down and up -/
theorem three_cells (w : World) (x y z : Value) (t1 t2 t3 : TypeId) (W : World) (hW : Below (((w.alloc (.cells #[x] t1)).alloc (.cells #[y] t2)).alloc (.cells #[z] t3)).heap.size (((w.alloc (.cells #[x] t1)).alloc (.cells #[y] t2)).alloc (.cells #[z] t3)) W) :
    W.cell? ⟨w.heap.size, 0, none⟩ = some x ∧ W.cell? ⟨w.heap.size + 1, 0, none⟩ = some y ∧ W.cell? ⟨w.heap.size + 1 + 1, 0, none⟩ = some z := by
  have h1 := ((Box.new w t1 #[x]).alloc (.cells #[y] t2)).alloc (.cells #[z] t3)
  have h2 := (Box.new (w.alloc (.cells #[x] t1)) t2 #[y]).alloc (.cells #[z] t3)
  have h3 := Box.new ((w.alloc (.cells #[x] t1)).alloc (.cells #[y] t2)) t3 #[z]
  rw [World.size_alloc] at h2
  rw [World.size_alloc, World.size_alloc] at h3
  exact ⟨(h1.on hW).cell 0, (h2.on hW).cell 0, (h3.on hW).cell 0⟩

theorem down_any (A : Option Addr) (c : Nat) (m : List Int) (a : Nat) (s : Int) (w : World) (hr : RdI w w.heap.size A (cum m)) (hm : ∀ d ∈ m, 0 ≤ d ∧ d ≤ 100) (hl : m.length ≤ 600) (ha : a ≤ m.length) (hs : 0 ≤ s) (hs2 : s ≤ 1000000) :
    Calls Try.prog 77 #[.slice A (cum m).length c, .int .i64 a, .int .i64 s] w fun e w' => e = .returned (.int .i64 (dn m a s)) ∧ Below w.heap.size w w' := by
  have hcl := cum_length m
  have hnn : ∀ d ∈ m, 0 ≤ d := fun d hd => (hm d hd).1
  have hlo := dn_lo m a s
  have hhi := dn_hi (l := m) (a := a) (s := s) ha
  have hB0 : Below w.heap.size w (((w.alloc (.cells #[.slice A (cum m).length c] 67)).alloc (.cells #[.int .i64 a] 3)).alloc (.cells #[.int .i64 s] 3)) := ((below_alloc w _).trs (below_alloc _ _)).trs (below_alloc _ _)
  have HS := Lib.hid (Search_any 105 #[.pointer (some ⟨w.heap.size, 0, none⟩), .pointer (some ⟨w.heap.size + 1, 0, none⟩), .pointer (some ⟨w.heap.size + 1 + 1, 0, none⟩)] (fun d => decide (ix (cum m) a + s < ix (cum m) d)) (cum m).length (dn m a s + 1) _ (enters_of Try.func105 (by kernel_rfl) rfl) (by omega)
    (fun W i hW hi => by
      obtain ⟨k1, k2, k3⟩ := three_cells w _ _ _ _ _ _ W hW
      exact down1_any A c (cum m).length w.heap.size (w.heap.size + 1) (w.heap.size + 1 + 1) (cum m) a i s W rfl k1 k2 k3 ((hr.on hB0).on hW) (by omega) hi (by omega) (cum_bounds hm hl) hs hs2)
    (by omega)
    (fun i hi => by
      simp only [decide_eq_false_iff_not]
      rw [cm_ix (by omega), cm_ix (by omega)]
      by_cases e : a ≤ i
      · have := (dn_iff hnn hs e (by omega)).1 (by omega); omega
      · have := cm_mono hnn (i := i) (j := a) (by omega) ha; omega)
    (fun i hi hn => by
      simp only [decide_eq_true_eq]
      rw [cm_ix (by omega), cm_ix (by omega)]
      apply Classical.byContradiction; intro hc
      have := (dn_iff hnn hs (a := a) (b := i) (by omega) (by omega)).2 (by omega); omega))
  have hdb : (dn m a s : Int) ≤ 1000 := by omega
  clear hr
  generalize (cum m).length = n at *
  generalize dn m a s = r at *
  have hn1 : (n : Int) ≤ 1000 := by omega
  clear hcl
  go_enter Try.func77, Try.ntmps77
  go_wp2_with (go_at_call 81; refine HS.out.mono ?_; rintro e w1 ⟨rfl, h1⟩)
  go_ret
  exact ⟨ret_int (by omega), hB0.trs h1⟩

theorem up_any (A : Option Addr) (c : Nat) (m : List Int) (a : Nat) (s : Int) (w : World) (hr : RdI w w.heap.size A (cum m)) (hm : ∀ d ∈ m, 0 ≤ d ∧ d ≤ 100) (hl : m.length ≤ 600) (ha : a ≤ m.length) (hs : 0 ≤ s) :
    Calls Try.prog 76 #[.slice A (cum m).length c, .int .i64 a, .int .i64 s] w fun e w' => e = .returned (.int .i64 (up m a s)) ∧ Below w.heap.size w w' := by
  have hcl := cum_length m
  have hnn : ∀ d ∈ m, 0 ≤ d := fun d hd => (hm d hd).1
  have hhi := up_hi m a s
  have hB0 : Below w.heap.size w (((w.alloc (.cells #[.slice A (cum m).length c] 67)).alloc (.cells #[.int .i64 a] 3)).alloc (.cells #[.int .i64 s] 3)) := ((below_alloc w _).trs (below_alloc _ _)).trs (below_alloc _ _)
  have HS := Lib.hid (Search_any 104 #[.pointer (some ⟨w.heap.size, 0, none⟩), .pointer (some ⟨w.heap.size + 1, 0, none⟩), .pointer (some ⟨w.heap.size + 1 + 1, 0, none⟩)] (fun d => decide (ix (cum m) a - ix (cum m) d ≤ s)) a (up m a s) _ (enters_of Try.func104 (by kernel_rfl) rfl) (by omega)
    (fun W i hW hi => by
      obtain ⟨k1, k2, k3⟩ := three_cells w _ _ _ _ _ _ W hW
      exact up1_any A c (cum m).length w.heap.size (w.heap.size + 1) (w.heap.size + 1 + 1) (cum m) a i s W rfl k1 k2 k3 ((hr.on hB0).on hW) (by omega) (by omega) (by omega) (cum_bounds hm hl))
    hhi
    (fun i hi => by
      simp only [decide_eq_false_iff_not]
      rw [cm_ix (by omega), cm_ix (by omega)]
      intro hc
      have := (up_iff hnn hs (a := a) (b := i) (by omega) ha).2 hc; omega)
    (fun i hi hn => by
      simp only [decide_eq_true_eq]
      rw [cm_ix (by omega), cm_ix (by omega)]
      exact (up_iff hnn hs (a := a) (b := i) (by omega) ha).1 hi))
  clear hr
  generalize (cum m).length = n at *
  generalize up m a s = r at *
  clear hcl
  go_enter Try.func76, Try.ntmps76
  go_wp2_with (go_at_call 81; refine HS.out.mono ?_; rintro e w1 ⟨rfl, h1⟩)
  go_ret
  exact ⟨rfl, hB0.trs h1⟩

theorem isStrength_any (s : Int) (w : World) :
    Calls Try.prog 75 #[.int .i64 s] w fun e w' => e = .returned (.bool (btw 0 s 100000)) ∧ w = w' := by
  go_enter Try.func75, Try.ntmps75
  go_wp2_with (go_at_call 61; refine (between_any _ _ _ _).mono ?_; rintro e w' ⟨rfl, rfl⟩)
  go_ret
  exact ⟨rfl, rfl⟩
end Go.Proofs.Ytnodeooammplfaa
