/- Walks over package alert and its reference, first part: ranges, valid tasks, stretches, the demand. -/
import Derived.Test.YtdafiblnanpiiaaProg
import Derived.Test.YtdafiblnanpiiaaLibT
import Derived.StillTailTactics
namespace Go.Proofs.Ytdafiblnanpiiaa
set_option linter.unusedVariables false
open Go.RowKit

theorem infoInt : (Try.prog.info? 3).map (fun i => (i.zero, i.size, i.bytes)) = some (some (.int .i64 0), 1, 8) := by kernel_rfl
theorem infoTask : (Try.prog.info? 36).map (fun i => (i.zero, i.size, i.bytes)) = some (some (.agg #[.int .i64 0, .int .i64 0, .int .i64 0]), 3, 24) := by kernel_rfl

theorem between_any (a n b : Int) (w : World) :
    Calls Try.prog 70 #[.int .i64 a, .int .i64 n, .int .i64 b] w fun e w' => e = .returned (.bool (btw a n b)) ∧ w = w' := by
  by_cases h : a ≤ n
  all_goals
    go_enter Try.func70, Try.ntmps70
    go_wp2
    go_ret
    exact ⟨ret_bool (by rw [Bool.eq_iff_iff]; simp [btw] <;> omega), rfl⟩
theorem within_any (a n b : Int) (w : World) :
    Calls Try.prog 63 #[.int .i64 a, .int .i64 n, .int .i64 b] w fun e w' => e = .returned (.bool (btw a n b)) ∧ w = w' := by
  by_cases h : a ≤ n
  all_goals
    go_enter Try.func63, Try.ntmps63
    go_wp2
    go_ret
    exact ⟨ret_bool (by rw [Bool.eq_iff_iff]; simp [btw] <;> omega), rfl⟩

/-- a task that is not valid -/
def badT (c l u : Int) : Bool := !(btw 0 c 99) || !(btw 1 l 100) || decide (l ≤ c) || !(btw 1 u 100)
def vldT (L : List (Int × Int × Int)) : Bool := btw 1 L.length 12 && !(anyF (fun k => badT (ta L k) (tb L k) (tc L k)) L.length)

theorem bad_any (c l u : Int) (w : World) :
    Calls Try.prog 86 #[.agg #[.int .i64 c, .int .i64 l, .int .i64 u]] w fun e w' => e = .returned (.bool (badT c l u)) ∧ Below w.heap.size w w' := by
  unfold badT
  cases h1 : btw 0 c 99
  · go_enter Try.func86, Try.ntmps86
    go_wp2_with (go_at_call 70; (with_reducible refine (between_any _ _ _ _).mono ?_); rintro e w' ⟨rfl, rfl⟩)
    go_ret
    exact ⟨ret_bool (by simp), below_alloc _ _⟩
  · cases h2 : btw 1 l 100
    · go_enter Try.func86, Try.ntmps86
      go_wp2_with (go_at_call 70; (with_reducible refine (between_any _ _ _ _).mono ?_); rintro e w' ⟨rfl, rfl⟩)
      go_ret
      exact ⟨ret_bool (by simp), below_alloc _ _⟩
    · by_cases h3 : l ≤ c
      · have hd : decide (l ≤ c) = true := by simpa using h3
        have H3 := Lib.hid hd
        go_enter Try.func86, Try.ntmps86
        go_wp2_with (go_at_call 70; (with_reducible refine (between_any _ _ _ _).mono ?_); rintro e w' ⟨rfl, rfl⟩)
        go_ret
        exact ⟨ret_bool (by rw [H3.out]; simp), below_alloc _ _⟩
      · have hd : decide (l ≤ c) = false := by simpa using h3
        have H3 := Lib.hid hd
        go_enter Try.func86, Try.ntmps86
        go_wp2_with (go_at_call 70; (with_reducible refine (between_any _ _ _ _).mono ?_); rintro e w' ⟨rfl, rfl⟩)
        go_ret
        exact ⟨ret_bool (by rw [H3.out]; simp), below_alloc _ _⟩

/-- what is asked of a closure of tasks -/
def PredT (g : Nat) (lb : Array Value) (p : Int → Int → Int → Bool) (w : World) : Prop :=
  ∀ (W : World) (x y z : Int), Below w.heap.size w W → Calls Try.prog g (#[.agg #[.int .i64 x, .int .i64 y, .int .i64 z]] ++ lb) W fun e w' => e = .returned (.bool (p x y z)) ∧ Below W.heap.size W w'

theorem IndexFuncT_any (g : Nat) (lb : Array Value) (A : Option Addr) (c : Nat) (L : List (Int × Int × Int)) (p : Int → Int → Int → Bool) (w : World) (hr : RdT w w.heap.size A L) (hl : L.length ≤ 1125899906842624)
  (eg : ∀ args w, (callFunc g args).run Try.prog w = .ok (.enter g args) w) (hp : PredT g lb p w) :
    Calls Try.prog 97 #[.slice A L.length c, .func (.func g) #[] lb] w fun e w' => e = .returned (.int .i64 (idxF (fun k => p (ta L k) (tb L k) (tc L k)) L.length)) ∧ Below w.heap.size w w' := by
  have HP := Lib.hid hp; clear hp
  have HR := Lib.hid hr; clear hr
  generalize hq : idxF (fun k => p (ta L k) (tb L k) (tc L k)) L.length = res
  have HQ := Lib.hid hq; clear hq
  generalize hn : L.length = n at *
  have HN := Lib.hid hn; clear hn
  go_enter Try.func97, Try.ntmps97
  go_wp2
  go_loopg [8] n (fun k s wr => ∃ i : Nat, s = .int .i64 i ∧ i ≤ n ∧ n - i ≤ k ∧ Below w.heap.size w wr ∧ Aside (∀ t, t < i → p (ta L t) (tb L t) (tc L t) = false))
  case atStart => exact ⟨0, rfl, by omega, by omega, Below.refl _ _, (fun t ht => absurd ht (Nat.not_lt_zero t) : ∀ t, t < 0 → p (ta L t) (tb L t) (tc L t) = false)⟩
  case round =>
    obtain ⟨i, rfl, hi, hk, hB, HA⟩ := hrel
    by_cases hlt : i < n
    · obtain ⟨b, o, rfl, hb, c1, c2, c3⟩ := HR.out.at_ (k := i) (by rw [HN.out]; exact hlt)
      rw [← hB.cell hb] at c1 c2 c3
      have hcall := HP.out wr (ta L i) (tb L i) (tc L i) hB
      cases hpi : p (ta L i) (tb L i) (tc L i)
      all_goals
        rw [hpi] at hcall
        have HPI := Lib.hid hpi; clear hpi
        go_wp2_with (go_at_fn g; refine hcall.mono ?_; rintro e w' ⟨rfl, hB'⟩)
      · go_roundg (n - (i + 1))
        case measure => omega
        case rel => exact ⟨i + 1, by go_num, by omega, by omega, hB.trs hB', fun t ht => by
            rcases Nat.lt_succ_iff_lt_or_eq.1 ht with h | rfl
            · exact HA.out t h
            · exact HPI.out⟩
      · go_ret
        exact ⟨ret_int (by rw [← HQ.out]; exact (idxF_hit hlt HPI.out HA.out).symm), hB.trs hB'⟩
    · obtain rfl : i = n := by omega
      go_wp2
      go_ret
      exact ⟨ret_int (by rw [← HQ.out]; exact (idxF_miss HA.out).symm), hB⟩

theorem ContainsFuncT_any (g : Nat) (lb : Array Value) (A : Option Addr) (c : Nat) (L : List (Int × Int × Int)) (p : Int → Int → Int → Bool) (w : World) (hr : RdT w w.heap.size A L) (hl : L.length ≤ 1125899906842624)
  (eg : ∀ args w, (callFunc g args).run Try.prog w = .ok (.enter g args) w) (hp : PredT g lb p w) :
    Calls Try.prog 85 #[.slice A L.length c, .func (.func g) #[] lb] w fun e w' => e = .returned (.bool (anyF (fun k => p (ta L k) (tb L k) (tc L k)) L.length)) ∧ Below w.heap.size w w' := by
  have H := IndexFuncT_any g lb A c L p w hr hl eg hp
  have HH := Lib.hid H; clear H hr
  have HP := Lib.hid hp; clear hp
  generalize hn : idxF (fun k => p (ta L k) (tb L k) (tc L k)) L.length = r at *
  have HN := Lib.hid hn; clear hn
  generalize L.length = n at *
  go_enter Try.func85, Try.ntmps85
  go_wp2_with (go_at_call 97; refine HH.out.mono ?_; rintro e w' ⟨rfl, hB⟩)
  go_ret
  exact ⟨ret_bool (by unfold anyF; rw [HN.out]), hB⟩

theorem Valid_any (A : Option Addr) (c : Nat) (L : List (Int × Int × Int)) (w : World) (hr : RdT w w.heap.size A L) (hl : L.length ≤ 1125899906842624) :
    Calls Try.prog 49 #[.slice A L.length c] w fun e w' => e = .returned (.bool (vldT L)) ∧ Below w.heap.size w w' := by
  have H := ContainsFuncT_any 86 #[] A c L badT w hr hl (enters_of Try.func86 (by kernel_rfl) rfl) (fun W x y z _ => bad_any x y z W)
  have HH := Lib.hid H; clear H hr
  have hv : vldT L = (btw 1 L.length 12 && !(anyF (fun k => badT (ta L k) (tb L k) (tc L k)) L.length)) := rfl
  generalize anyF (fun k => badT (ta L k) (tb L k) (tc L k)) L.length = an at *
  have HV := Lib.hid hv; clear hv
  generalize L.length = n at *
  cases hb : btw 1 n 12
  all_goals
    have HB := Lib.hid hb
    go_enter Try.func49, Try.ntmps49
    go_wp2_with (first | (go_at_call 70; (with_reducible refine (between_any _ _ _ _).mono ?_); rintro e w' ⟨rfl, rfl⟩) | (go_at_call 85; refine HH.out.mono ?_; rintro e w' ⟨rfl, hB⟩))
    go_ret
  · exact ⟨ret_bool (by rw [HV.out, HB.out]; rfl), Below.refl _ _⟩
  · exact ⟨ret_bool (by rw [HV.out, HB.out]; rfl), hB⟩

theorem vldT_len {L : List (Int × Int × Int)} (h : btw 1 L.length 12 = false) : vldT L = false := by simp [vldT, h]
theorem vldT_at {L : List (Int × Int × Int)} (k : Nat) (hk : k < L.length) (h : badT (ta L k) (tb L k) (tc L k) = true) : vldT L = false := by
  have : anyF (fun k => badT (ta L k) (tb L k) (tc L k)) L.length = true := anyF_iff.2 ⟨k, hk, h⟩
  simp [vldT, this]
theorem vldT_yes {L : List (Int × Int × Int)} (h : btw 1 L.length 12 = true) (h' : ∀ k, k < L.length → badT (ta L k) (tb L k) (tc L k) = false) : vldT L = true := by
  have : anyF (fun k => badT (ta L k) (tb L k) (tc L k)) L.length = false := anyF_no.2 h'
  simp [vldT, h, this]
theorem badT_no {c l u : Int} (h : badT c l u = false) : (0 ≤ c ∧ c ≤ 99) ∧ (1 ≤ l ∧ l ≤ 100) ∧ c < l ∧ 1 ≤ u ∧ u ≤ 100 := by
  simp [badT, btw] at h; omega
/-- what valid tasks are -/
def okT (L : List (Int × Int × Int)) : Prop := (1 ≤ L.length ∧ L.length ≤ 12) ∧ ∀ k, k < L.length → (0 ≤ ta L k ∧ ta L k ≤ 99) ∧ (1 ≤ tb L k ∧ tb L k ≤ 100) ∧ ta L k < tb L k ∧ 1 ≤ tc L k ∧ tc L k ≤ 100
theorem okT_of {L : List (Int × Int × Int)} (h : vldT L = true) : okT L := by
  simp only [vldT, Bool.and_eq_true, Bool.not_eq_true'] at h
  have h1 := btw_iff.1 h.1
  exact ⟨by omega, fun k hk => badT_no (anyF_no.1 h.2 k hk)⟩
theorem vldT_of {L : List (Int × Int × Int)} (h : okT L) : vldT L = true := by
  refine vldT_yes (btw_iff.2 ⟨by have := h.1; omega, by have := h.1; omega⟩) fun k hk => ?_
  have := h.2 k hk
  simp [badT, btw]; omega

theorem refValid_any (A : Option Addr) (c : Nat) (L : List (Int × Int × Int)) (w : World) (hr : RdT w w.heap.size A L) (hl : L.length ≤ 1125899906842624) :
    Calls Try.prog 22 #[.slice A L.length c] w fun e w' => e = .returned (.bool (vldT L)) ∧ Below w.heap.size w w' := by
  have HR := Lib.hid hr; clear hr
  have H1 := Lib.hid (@vldT_len L)
  have H2 := Lib.hid (@vldT_at L)
  have H3 := Lib.hid (@vldT_yes L)
  generalize vldT L = v at *
  generalize hn : L.length = n at *
  have HN := Lib.hid hn; clear hn
  cases hb : btw 1 n 12
  all_goals
    have HB := Lib.hid hb
    go_enter Try.func22, Try.ntmps22
    go_wp2_with (go_at_call 63; (with_reducible refine (within_any _ _ _ _).mono ?_); rintro e w' ⟨rfl, rfl⟩)
  · go_ret
    exact ⟨ret_bool (H1.out HB.out).symm, Below.refl _ _⟩
  · clear hb
    go_loopg [3] n (fun k s wr => ∃ i : Nat, s = .int .i64 i ∧ i ≤ n ∧ n - i ≤ k ∧ Below w.heap.size w wr ∧ Aside (∀ t, t < i → badT (ta L t) (tb L t) (tc L t) = false))
    case atStart => exact ⟨0, rfl, by omega, by omega, Below.refl _ _, (fun t ht => absurd ht (Nat.not_lt_zero t) : ∀ t, t < 0 → badT (ta L t) (tb L t) (tc L t) = false)⟩
    case round =>
      obtain ⟨i, rfl, hi, hk, hB, HA⟩ := hrel
      by_cases hlt : i < n
      · obtain ⟨b, o, rfl, hb, c1, c2, c3⟩ := HR.out.at_ (k := i) (by rw [HN.out]; exact hlt)
        rw [← hB.cell hb] at c1 c2 c3
        have HX := Lib.hid (fun h => H2.out i hlt h)
        generalize hgx : ta L i = x at *
        generalize hgy : tb L i = y at *
        generalize hgz : tc L i = z at *
        have G := Lib.hid (And.intro hgx (And.intro hgy hgz)); clear hgx hgy hgz
        have HD := Lib.hid (show badT x y z = (!(btw 0 x 99) || !(btw 1 y 100) || decide (y ≤ x) || !(btw 1 z 100)) from rfl)
        cases hp : btw 0 x 99
        · go_wp2
          go_quiet ((go_at_call 63; exact quiet_left (within_any _ _ _ _)))
          go_wp2
          go_ret
          exact ⟨ret_bool (HX.out (by rw [HD.out]; simp [hp])).symm, hB.drewsN _⟩
        · cases hq : btw 1 y 100
          · go_wp2
            go_quiet ((go_at_call 63; exact quiet_left (within_any _ _ _ _)))
            go_wp2
            go_ret
            exact ⟨ret_bool (HX.out (by rw [HD.out]; simp [hq])).symm, hB.drewsN _⟩
          · by_cases hxy : y ≤ x
            · have hd : decide (y ≤ x) = true := by simpa using hxy
              go_wp2
              go_quiet ((go_at_call 63; exact quiet_left (within_any _ _ _ _)))
              go_wp2
              go_ret
              exact ⟨ret_bool (HX.out (by rw [HD.out]; simp [hxy])).symm, hB.drewsN _⟩
            · have hd : decide (y ≤ x) = false := by simpa using hxy
              cases hz : btw 1 z 100
              · go_wp2
                go_quiet ((go_at_call 63; exact quiet_left (within_any _ _ _ _)))
                go_wp2
                go_ret
                exact ⟨ret_bool (HX.out (by rw [HD.out]; simp [hz])).symm, hB.drewsN _⟩
              · have HPQ := Lib.hid (show badT x y z = false by rw [HD.out, hp, hq, hd, hz]; rfl)
                go_wp2
                go_quiet ((go_at_call 63; exact quiet_left (within_any _ _ _ _)))
                go_wp2
                go_roundg (n - (i + 1))
                case measure => omega
                case rel => exact ⟨i + 1, by go_num, by omega, by omega, hB.drewsN _, fun t ht => by
                  rcases Nat.lt_succ_iff_lt_or_eq.1 ht with h | rfl
                  · exact HA.out t h
                  · rw [G.out.1, G.out.2.1, G.out.2.2]; exact HPQ.out⟩
      · obtain rfl : i = n := by omega
        go_wp2
        go_ret
        exact ⟨ret_bool (H3.out HB.out HA.out).symm, hB⟩

theorem Long_any (A : Option Addr) (n c : Nat) (w : World) :
    Calls Try.prog 14 #[.slice A n c] w fun e w' => e = .returned (.bool (decide ((40 : Int) < n))) ∧ w = w' := by
  go_enter Try.func14, Try.ntmps14
  go_wp2
  go_ret
  exact ⟨rfl, rfl⟩
end Go.Proofs.Ytdafiblnanpiiaa
