/- Walks over package ice and its reference, first part: ranges, valid ice, metres, the column of losses. -/
import Derived.Test.YtnodeooammplfaaProg
import Derived.Test.YtnodeooammplfaaIceMath
namespace Go.Proofs.Ytnodeooammplfaa
set_option linter.unusedVariables false
open Go.RowKit

theorem between_any (a n b : Int) (w : World) :
    Calls Try.prog 61 #[.int .i64 a, .int .i64 n, .int .i64 b] w fun e w' => e = .returned (.bool (btw a n b)) ∧ w = w' := by
  by_cases h : a ≤ n
  all_goals
    go_enter Try.func61, Try.ntmps61
    go_wp2
    go_ret
    exact ⟨ret_bool (by rw [Bool.eq_iff_iff]; simp [btw] <;> omega), rfl⟩

theorem within_any (a n b : Int) (w : World) :
    Calls Try.prog 64 #[.int .i64 a, .int .i64 n, .int .i64 b] w fun e w' => e = .returned (.bool (btw a n b)) ∧ w = w' := by
  by_cases h : a ≤ n
  all_goals
    go_enter Try.func64, Try.ntmps64
    go_wp2
    go_ret
    exact ⟨ret_bool (by rw [Bool.eq_iff_iff]; simp [btw] <;> omega), rfl⟩

theorem depth_any (A : Option Addr) (n c : Nat) (w : World) (hn : n ≤ 1000000) :
    Calls Try.prog 60 #[.slice A n c] w fun e w' => e = .returned (.int .i64 (n - 1)) ∧ w = w' := by
  go_enter Try.func60, Try.ntmps60
  go_wp2
  go_ret
  exact ⟨rfl, rfl⟩

theorem bad_any (t d : Int) (w : World) :
    Calls Try.prog 63 #[.agg #[.int .i64 t, .int .i64 d]] w fun e w' => e = .returned (.bool (!(btw 1 t 30) || !(btw 0 d 100))) ∧ Below w.heap.size w w' := by
  cases h : btw 1 t 30
  all_goals
    go_enter Try.func63, Try.ntmps63
    go_wp2_with (go_at_call 61; refine (between_any _ _ _ _).mono ?_; rintro e w' ⟨rfl, rfl⟩)
    go_ret
    exact ⟨ret_bool (by simp), below_alloc _ _⟩

/-- what is asked of a closure of layers -/
def PredL (g : Nat) (lb : Array Value) (p : Int → Int → Bool) (w : World) : Prop :=
  ∀ (W : World) (x y : Int), Below w.heap.size w W → Calls Try.prog g (#[.agg #[.int .i64 x, .int .i64 y]] ++ lb) W fun e w' => e = .returned (.bool (p x y)) ∧ Below W.heap.size W w'
theorem PredL.on {g : Nat} {lb : Array Value} {p : Int → Int → Bool} {w W : World} (h : PredL g lb p w) (hb : Below w.heap.size w W) : PredL g lb p W :=
  fun W' x y hb' => h W' x y (hb.trs hb')

theorem IndexFuncL_any (g : Nat) (lb : Array Value) (A : Option Addr) (c : Nat) (L : List (Int × Int)) (p : Int → Int → Bool) (w : World) (hr : RdP w w.heap.size A L) (hl : L.length ≤ 1125899906842624)
  (eg : ∀ args w, (callFunc g args).run Try.prog w = .ok (.enter g args) w) (hp : PredL g lb p w) :
    Calls Try.prog 103 #[.slice A L.length c, .func (.func g) #[] lb] w fun e w' => e = .returned (.int .i64 (idxF (fun k => p (pa L k) (pb L k)) L.length)) ∧ Below w.heap.size w w' := by
  have HP := Lib.hid hp; clear hp
  have HR := Lib.hid hr; clear hr
  generalize hq : idxF (fun k => p (pa L k) (pb L k)) L.length = res
  have HQ := Lib.hid hq; clear hq
  generalize hn : L.length = n at *
  have HN := Lib.hid hn; clear hn
  go_enter Try.func103, Try.ntmps103
  go_wp2
  go_loopg [8] n (fun k s wr => ∃ i : Nat, s = .int .i64 i ∧ i ≤ n ∧ n - i ≤ k ∧ Below w.heap.size w wr ∧ Aside (∀ t, t < i → p (pa L t) (pb L t) = false))
  case atStart => exact ⟨0, rfl, by omega, by omega, Below.refl _ _, (fun t ht => absurd ht (Nat.not_lt_zero t) : ∀ t, t < 0 → p (pa L t) (pb L t) = false)⟩
  case round =>
    obtain ⟨i, rfl, hi, hk, hB, HA⟩ := hrel
    by_cases hlt : i < n
    · obtain ⟨b, o, rfl, hb, c1, c2⟩ := HR.out.at_ (k := i) (by rw [HN.out]; exact hlt)
      rw [← hB.cell hb] at c1 c2
      have hcall := HP.out wr (pa L i) (pb L i) hB
      cases hpi : p (pa L i) (pb L i)
      all_goals
        rw [hpi] at hcall
        have HPI := Lib.hid hpi; clear hpi
        go_wp2_with (go_at_fn g; refine hcall.mono ?_; rintro e w' ⟨rfl, hB'⟩)
      · go_roundg (n - (i + 1))
        case measure => omega
        case rel => exact ⟨i + 1, by go_num, by omega, by omega, hB.trs hB', fun t ht => by
            rcases Nat.lt_succ_iff_lt_or_eq.1 ht with h | rfl
            · exact HA.out t h
            · exact HPI.out⟩
      · go_ret
        exact ⟨ret_int (by rw [← HQ.out]; exact (idxF_hit hlt HPI.out HA.out).symm), hB.trs hB'⟩
    · obtain rfl : i = n := by omega
      go_wp2
      go_ret
      exact ⟨ret_int (by rw [← HQ.out]; exact (idxF_miss HA.out).symm), hB⟩

theorem ContainsFuncL_any (g : Nat) (lb : Array Value) (A : Option Addr) (c : Nat) (L : List (Int × Int)) (p : Int → Int → Bool) (w : World) (hr : RdP w w.heap.size A L) (hl : L.length ≤ 1125899906842624)
  (eg : ∀ args w, (callFunc g args).run Try.prog w = .ok (.enter g args) w) (hp : PredL g lb p w) :
    Calls Try.prog 62 #[.slice A L.length c, .func (.func g) #[] lb] w fun e w' => e = .returned (.bool (anyF (fun k => p (pa L k) (pb L k)) L.length)) ∧ Below w.heap.size w w' := by
  have H := IndexFuncL_any g lb A c L p w hr hl eg hp
  have HH := Lib.hid H; clear H hr
  have HP := Lib.hid hp; clear hp
  generalize hn : idxF (fun k => p (pa L k) (pb L k)) L.length = r at *
  have HN := Lib.hid hn; clear hn
  generalize L.length = n at *
  go_enter Try.func62, Try.ntmps62
  go_wp2_with (go_at_call 103; refine HH.out.mono ?_; rintro e w' ⟨rfl, hB⟩)
  go_ret
  exact ⟨ret_bool (by unfold anyF; rw [HN.out]), hB⟩

theorem Valid_any (A : Option Addr) (c : Nat) (L : List (Int × Int)) (w : World) (hr : RdP w w.heap.size A L) (hl : L.length ≤ 1125899906842624) :
    Calls Try.prog 20 #[.slice A L.length c] w fun e w' => e = .returned (.bool (vld L)) ∧ Below w.heap.size w w' := by
  have H := ContainsFuncL_any 63 #[] A c L (fun t d => !(btw 1 t 30) || !(btw 0 d 100)) w hr hl (enters_of Try.func63 (by kernel_rfl) rfl) (fun W x y _ => bad_any x y W)
  have HH := Lib.hid H; clear H hr
  have hv : vld L = (btw 1 L.length 20 && !(anyF (fun k => !(btw 1 (pa L k) 30) || !(btw 0 (pb L k) 100)) L.length)) := rfl
  generalize anyF (fun k => !(btw 1 (pa L k) 30) || !(btw 0 (pb L k) 100)) L.length = an at *
  have HV := Lib.hid hv; clear hv
  generalize L.length = n at *
  cases hb : btw 1 n 20
  all_goals
    have HB := Lib.hid hb
    go_enter Try.func20, Try.ntmps20
    go_wp2_with (first | (go_at_call 61; refine (between_any _ _ _ _).mono ?_; rintro e w' ⟨rfl, rfl⟩) | (go_at_call 62; refine HH.out.mono ?_; rintro e w' ⟨rfl, hB⟩))
    go_ret
  · exact ⟨ret_bool (by rw [HV.out, HB.out]; rfl), Below.refl _ _⟩
  · exact ⟨ret_bool (by rw [HV.out, HB.out]; rfl), hB⟩

theorem vld_len {L : List (Int × Int)} (h : btw 1 L.length 20 = false) : vld L = false := by simp [vld, h]
theorem vld_at {L : List (Int × Int)} (k : Nat) (hk : k < L.length) (h : (!(btw 1 (pa L k) 30) || !(btw 0 (pb L k) 100)) = true) : vld L = false := by
  have : anyF (fun k => !(btw 1 (pa L k) 30) || !(btw 0 (pb L k) 100)) L.length = true := anyF_iff.2 ⟨k, hk, h⟩
  simp [vld, this]
theorem vld_yes {L : List (Int × Int)} (h : btw 1 L.length 20 = true) (h' : ∀ k, k < L.length → (!(btw 1 (pa L k) 30) || !(btw 0 (pb L k) 100)) = false) : vld L = true := by
  have : anyF (fun k => !(btw 1 (pa L k) 30) || !(btw 0 (pb L k) 100)) L.length = false := anyF_no.2 h'
  simp [vld, h, this]

theorem refValid_any (A : Option Addr) (c : Nat) (L : List (Int × Int)) (w : World) (hr : RdP w w.heap.size A L) (hl : L.length ≤ 1125899906842624) :
    Calls Try.prog 21 #[.slice A L.length c] w fun e w' => e = .returned (.bool (vld L)) ∧ w = w' := by
  have HR := Lib.hid hr; clear hr
  have H1 := @vld_len L
  have H2 := @vld_at L
  have H3 := @vld_yes L
  generalize vld L = v at *
  have H1 := Lib.hid H1
  have H2 := Lib.hid H2
  have H3 := Lib.hid H3
  rename_i h1 h2 h3
  clear h1 h2 h3
  generalize hn : L.length = n at *
  have HN := Lib.hid hn; clear hn
  cases hb : btw 1 n 20
  all_goals
    have HB := Lib.hid hb
    go_enter Try.func21, Try.ntmps21
    go_wp2_with (go_at_call 64; refine (within_any _ _ _ _).mono ?_; rintro e w' ⟨rfl, rfl⟩)
  · go_ret
    exact ⟨ret_bool (H1.out HB.out).symm, rfl⟩
  · clear hb
    go_loopg [3] n (fun k s wr => ∃ i : Nat, s = .int .i64 i ∧ i ≤ n ∧ n - i ≤ k ∧ w = wr ∧ Aside (∀ t, t < i → (!(btw 1 (pa L t) 30) || !(btw 0 (pb L t) 100)) = false))
    case atStart => exact ⟨0, rfl, by omega, by omega, rfl, (fun t ht => absurd ht (Nat.not_lt_zero t) : ∀ t, t < 0 → (!(btw 1 (pa L t) 30) || !(btw 0 (pb L t) 100)) = false)⟩
    case round =>
      obtain ⟨i, rfl, hi, hk, rfl, HA⟩ := hrel
      by_cases hlt : i < n
      · obtain ⟨b, o, rfl, hb, c1, c2⟩ := HR.out.at_ (k := i) (by rw [HN.out]; exact hlt)
        cases hp : btw 1 (pa L i) 30
        · go_wp2_with (go_at_call 64; refine (within_any _ _ _ _).mono ?_; rintro e w' ⟨rfl, rfl⟩)
          go_ret
          exact ⟨ret_bool (H2.out i hlt (by simp_all)).symm, rfl⟩
        · cases hq : btw 0 (pb L i) 100
          · go_wp2_with (go_at_call 64; refine (within_any _ _ _ _).mono ?_; rintro e w' ⟨rfl, rfl⟩)
            go_ret
            exact ⟨ret_bool (H2.out i hlt (by simp_all)).symm, rfl⟩
          · have HPQ := Lib.hid (And.intro hp hq)
            go_wp2_with (go_at_call 64; refine (within_any _ _ _ _).mono ?_; rintro e w' ⟨rfl, rfl⟩)
            go_roundg (n - (i + 1))
            case measure => omega
            case rel => exact ⟨i + 1, by go_num, by omega, by omega, rfl, fun t ht => by
              rcases Nat.lt_succ_iff_lt_or_eq.1 ht with h | rfl
              · exact HA.out t h
              · rw [HPQ.out.1, HPQ.out.2]; rfl⟩
      · obtain rfl : i = n := by omega
        go_wp2_with (go_at_call 64; refine (within_any _ _ _ _).mono ?_; rintro e w' ⟨rfl, rfl⟩)
        go_ret
        exact ⟨ret_bool (H3.out HB.out HA.out).symm, rfl⟩
end Go.Proofs.Ytnodeooammplfaa
