/- Walks over package ice: estimates: a search over slices of integers; the closures of 'losses'. -/
import Derived.Test.YtnodeooammplfaaIceL
import Derived.Test.YtnodeooammplfaaIceBw
import Derived.Test.YtnodeooammplfaaLibL
namespace Go.Proofs.Ytnodeooammplfaa
open Go.RowKit
set_option linter.unusedSimpArgs false
set_option linter.unusedVariables false

/-- a closure that tells of the lists of a list -/
def PredS (g : Nat) (lb : Array Value) (p : List Int → Bool) (l : List (List Int)) (w : World) : Prop :=
  ∀ (W : World) (A : Option Addr) (c i : Nat), Below w.heap.size w W → i < l.length → RdI W W.heap.size A (lx l i) → Calls Try.prog g (#[.slice A (lx l i).length c] ++ lb) W fun e w' => e = .returned (.bool (p (lx l i))) ∧ Below W.heap.size W w'

theorem IndexFuncS_any (g : Nat) (lb : Array Value) (A : Option Addr) (c : Nat) (l : List (List Int)) (p : List Int → Bool) (w : World) (hr : RdL w w.heap.size A l) (hl : l.length ≤ 1000000)
  (eg : ∀ args w, (callFunc g args).run Try.prog w = .ok (.enter g args) w) (hp : PredS g lb p l w) :
    Calls Try.prog 114 #[.slice A l.length c, .func (.func g) #[] lb] w fun e w' => e = .returned (.int .i64 (idxF (fun k => p (lx l k)) l.length)) ∧ Below w.heap.size w w' := by
  have HP := Lib.hid hp; clear hp
  unfold PredS at HP
  have HR := Lib.hid hr; clear hr
  generalize hq : idxF (fun k => p (lx l k)) l.length = res
  have HQ := Lib.hid hq; clear hq
  generalize hn : l.length = n at *
  have HN := Lib.hid hn; clear hn
  go_enter Try.func114, Try.ntmps114
  go_wp2
  go_loopg [8] n (fun k s wr => ∃ i : Nat, s = .int .i64 i ∧ i ≤ n ∧ n - i ≤ k ∧ Below w.heap.size w wr ∧ Aside (∀ t, t < i → p (lx l t) = false))
  case atStart => exact ⟨0, rfl, by omega, by omega, Below.refl _ _, (fun t ht => absurd ht (Nat.not_lt_zero t) : ∀ t, t < 0 → p (lx l t) = false)⟩
  case round =>
    obtain ⟨i, rfl, hi, hk, hB, HA⟩ := hrel
    by_cases hlt : i < n
    · obtain ⟨b, o, A1, c1', rfl, hb, c1, hr1⟩ := (HR.out.on hB).at_ (k := i) (by rw [HN.out]; exact hlt)
      have hcall := HP.out wr A1 c1' i hB (by first | exact hlt | (rw [HN.out]; exact hlt)) hr1
      clear hr1
      cases hpi : p (lx l i)
      all_goals
        rw [hpi] at hcall
        have HPI := Lib.hid hpi; clear hpi
        go_wp2_with (go_at_fn g; refine hcall.mono ?_; rintro e w' ⟨rfl, hB'⟩)
      · go_roundg (n - (i + 1))
        case measure => omega
        case rel => exact ⟨i + 1, by go_num, by omega, by omega, hB.trs hB', fun t ht => by
            rcases Nat.lt_succ_iff_lt_or_eq.1 ht with h | rfl
            · exact HA.out t h
            · exact HPI.out⟩
      · go_ret
        exact ⟨ret_int (by rw [← HQ.out]; exact (idxF_hit hlt HPI.out HA.out).symm), hB.trs hB'⟩
    · obtain rfl : i = n := by omega
      go_wp2
      go_ret
      exact ⟨ret_int (by rw [← HQ.out]; exact (idxF_miss HA.out).symm), hB⟩

theorem ContainsFuncS_any (g : Nat) (lb : Array Value) (A : Option Addr) (c : Nat) (l : List (List Int)) (p : List Int → Bool) (w : World) (hr : RdL w w.heap.size A l) (hl : l.length ≤ 1000000)
  (eg : ∀ args w, (callFunc g args).run Try.prog w = .ok (.enter g args) w) (hp : PredS g lb p l w) :
    Calls Try.prog 110 #[.slice A l.length c, .func (.func g) #[] lb] w fun e w' => e = .returned (.bool (anyF (fun k => p (lx l k)) l.length)) ∧ Below w.heap.size w w' := by
  have HI := Lib.hid (IndexFuncS_any g lb A c l p w hr hl eg hp)
  unfold anyF
  clear hr hp
  generalize idxF (fun k => p (lx l k)) l.length = r at *
  generalize l.length = n at *
  go_enter Try.func110, Try.ntmps110
  go_wp2_with (go_at_call 114; refine HI.out.mono ?_; rintro e w1 ⟨rfl, h1⟩)
  go_ret
  exact ⟨rfl, h1⟩


/-! ### the closures -/
/-- an estimate that is wrong -/
def wrongB (n : Nat) (l : List Int) : Bool := decide (l.length ≠ n) || anyF (fun k => !btw 0 (ix l k) 100) l.length
theorem wrong1_any (x : Int) (w : World) :
    Calls Try.prog 108 #[.int .i64 x] w fun e w' => e = .returned (.bool (!btw 0 x 100)) ∧ Below w.heap.size w w' := by
  go_enter Try.func108, Try.ntmps108
  go_wp2_with (go_at_call 61; refine (between_any _ _ _ _).mono ?_; rintro e w' ⟨rfl, rfl⟩)
  go_ret
  exact ⟨rfl, Below.refl _ _⟩
theorem wrong_any (A A2 : Option Addr) (c c2 n bi : Nat) (l : List Int) (w : World) (hr : RdI w w.heap.size A2 l) (hl : l.length ≤ 1000000) (hn : n ≤ 1000000) (hc : w.cell? ⟨bi, 0, none⟩ = some (.slice A n c)) :
    Calls Try.prog 106 #[.slice A2 l.length c2, .pointer (some ⟨bi, 0, none⟩)] w fun e w' => e = .returned (.bool (wrongB n l)) ∧ Below w.heap.size w w' := by
  have HI := Lib.hid (ContainsFuncI_any 108 #[] A2 c2 l (fun x => !btw 0 x 100) w hr hl (enters_of Try.func108 (by kernel_rfl) rfl) (fun W i hW hi => wrong1_any _ W))
  have HW : Hid (wrongB n l = (decide (l.length ≠ n) || anyF (fun k => !btw 0 (ix l k) 100) l.length)) := Lib.hid rfl
  generalize wrongB n l = r at *
  generalize anyF (fun k => !btw 0 (ix l k) 100) l.length = q at *
  clear hr
  generalize l.length = m at *
  by_cases e : m = n
  · subst e
    have he : ((m : Int) != (m : Int)) = false := by simp
    go_enter Try.func106, Try.ntmps106
    go_wp2_with (go_at_call 107; refine HI.out.mono ?_; rintro e w1 ⟨rfl, h1⟩)
    go_ret
    exact ⟨by rw [HW.out]; simp, h1⟩
  · have he : ((m : Int) != (n : Int)) = true := by rw [bne_iff_ne]; omega
    go_enter Try.func106, Try.ntmps106
    go_wp2
    go_ret
    exact ⟨by rw [HW.out]; simp [e], Below.refl _ _⟩
/-- are the numbers and the estimates right? -/
def estB (n m : Nat) (x y : Int) (Es : List (List Int)) : Bool := isB n [x, y] && btw 1 Es.length 10 && !anyF (fun k => wrongB m (lx Es k)) Es.length
set_option maxHeartbeats 1000000 in
theorem losses2_any (A A3 A4 : Option Addr) (n c c3 c4 m b0 b1 b2 b3 b4 : Nat) (x y : Int) (Es : List (List Int)) (w : World) (hn : n ≤ 1000000) (hm : m ≤ 1000000) (hr : RdL w w.heap.size A3 Es) (hl : Es.length ≤ 1000000) (hls : ∀ k, k < Es.length → (lx Es k).length ≤ 1000000)
    (h0 : w.cell? ⟨b0, 0, none⟩ = some (.int .i64 x)) (h1 : w.cell? ⟨b1, 0, none⟩ = some (.int .i64 y)) (h2 : w.cell? ⟨b2, 0, none⟩ = some (.slice A3 Es.length c3)) (h3 : w.cell? ⟨b3, 0, none⟩ = some (.func (.func 106) #[] #[.pointer (some ⟨b4, 0, none⟩)])) (h4 : w.cell? ⟨b4, 0, none⟩ = some (.slice A4 m c4)) :
    Calls Try.prog 109 #[.slice A n c, .pointer (some ⟨b0, 0, none⟩), .pointer (some ⟨b1, 0, none⟩), .pointer (some ⟨b2, 0, none⟩), .pointer (some ⟨b3, 0, none⟩)] w fun e w' => e = .returned (.bool (estB n m x y Es)) ∧ Below w.heap.size w w' := by
  have hb := below_alloc w (.cells #[.int .i64 x, .int .i64 y] 3)
  have H := Lib.hid (is_any A (some ⟨w.heap.size, 0, none⟩) n c 2 [x, y] (w.alloc (.cells #[.int .i64 x, .int .i64 y] 3)) hn (RdI.two w x y 3) (by simp))
  have g2 : (w.alloc (.cells #[.int .i64 x, .int .i64 y] 3)).cell? ⟨b2, 0, none⟩ = some (.slice A3 Es.length c3) := (hb.cell (p := ⟨b2, 0, none⟩) (World.block_lt_of_cell? _ _ h2)).trans h2
  have g3 : (w.alloc (.cells #[.int .i64 x, .int .i64 y] 3)).cell? ⟨b3, 0, none⟩ = some (.func (.func 106) #[] #[.pointer (some ⟨b4, 0, none⟩)]) := (hb.cell (p := ⟨b3, 0, none⟩) (World.block_lt_of_cell? _ _ h3)).trans h3
  have g4 : (w.alloc (.cells #[.int .i64 x, .int .i64 y] 3)).cell? ⟨b4, 0, none⟩ = some (.slice A4 m c4) := (hb.cell (p := ⟨b4, 0, none⟩) (World.block_lt_of_cell? _ _ h4)).trans h4
  have HC := Lib.hid (ContainsFuncS_any 106 #[.pointer (some ⟨b4, 0, none⟩)] A3 c3 Es (wrongB m) (w.alloc (.cells #[.int .i64 x, .int .i64 y] 3)) (hr.on hb) hl (enters_of Try.func106 (by kernel_rfl) rfl) (fun W A' c' i hW hi hR => wrong_any A4 A' c4 c' m b4 (lx Es i) W hR (hls i hi) hm ((hW.cell (p := ⟨b4, 0, none⟩) (World.block_lt_of_cell? _ _ g4)).trans g4)))
  have HE : Hid (estB n m x y Es = (isB n [x, y] && btw 1 Es.length 10 && !anyF (fun k => wrongB m (lx Es k)) Es.length)) := Lib.hid rfl
  have HB := Lib.hid hb
  clear hr hls hb h2 h3 h4 g4
  generalize estB n m x y Es = r at *
  generalize anyF (fun k => wrongB m (lx Es k)) Es.length = q at *
  generalize isB n [x, y] = p at *
  generalize hk : btw 1 Es.length 10 = k at *
  have HK := Lib.hid hk
  clear hk
  generalize Es.length = u at *
  cases p <;> cases k
  all_goals
    go_enter Try.func109, Try.ntmps109
    go_wp2_with (first
      | (go_at_call 68; refine H.out.mono ?_; rintro e w' ⟨rfl, rfl⟩)
      | (go_at_call 61; refine (between_any _ _ _ _).mono ?_; rintro e w' ⟨rfl, rfl⟩; rw [HK.out])
      | (go_at_call 110; refine HC.out.mono ?_; rintro e w5 ⟨rfl, h5⟩))
    go_ret
    first
      | exact ⟨by rw [HE.out]; rfl, HB.out⟩
      | exact ⟨by rw [HE.out]; simp, HB.out⟩
      | exact ⟨by rw [HE.out]; simp, HB.out.trs h5⟩
end Go.Proofs.Ytnodeooammplfaa
