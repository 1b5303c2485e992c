/- Walks over package ice: the lamps, one by one; what is told of them. -/
import Derived.Test.YtbocedbonaeohaaIceM
import Derived.Test.YtbocedbonaeohaaIceTurn2
namespace Go.Proofs.Ytbocedbonaeohaa
set_option linter.unusedVariables false
open Go.RowKit

def lmp (K : List (Nat × Nat)) : List (Int × Int) := K.map fun x => ((x.1 : Int), (x.2 : Int))
theorem lmp_len (K : List (Nat × Nat)) : (lmp K).length = K.length := by simp [lmp]
theorem lmp_snoc (K : List (Nat × Nat)) (a m : Nat) : lmp (K ++ [(a, m)]) = lmp K ++ [((a : Int), (m : Int))] := by simp [lmp]
theorem infoLamp : (Try.prog.info? 45).map (fun i => (i.zero, i.size, i.bytes)) = some (some (.agg #[.int .i64 0, .int .i64 0]), 2, 16) := by kernel_rfl

/-- so many lamps stand, and the rest is to come -/
def LampsAt (l : List Int) (s : Int) (m : Nat) (K : List (Nat × Nat)) : Prop := lampsO l s = (lampsF l s (l.length + 1) m).map (K ++ ·)
theorem lampsAt_zero (l : List Int) (s : Int) : LampsAt l s 0 [] := by unfold LampsAt lampsO; simp
theorem lampsAt_none {l : List Int} {s : Int} {m : Nat} {K : List (Nat × Nat)} (h : LampsAt l s m K) (hm : m < l.length) (he : dn l m s = m) : lampsO l s = none := by
  unfold LampsAt at h
  rw [h, lampsF, if_pos hm, if_pos he]; rfl
theorem lampsAt_next {l : List Int} {s : Int} {m : Nat} {K : List (Nat × Nat)} (h : LampsAt l s m K) (hm : m < l.length) (he : dn l m s ≠ m) : LampsAt l s (dn l (dn l m s) s) (K ++ [(dn l m s, m)]) := by
  unfold LampsAt at *
  have h1 := dn_lo l m s
  have h2 := dn_lo l (dn l m s) s
  rw [h, lampsF, if_pos hm, if_neg he, lampsF_more (f := l.length) (g := l.length + 1) (by omega) (by omega), Option.map_map]
  congr 1
  funext x
  simp
theorem lampsAt_end {l : List Int} {s : Int} {m : Nat} {K : List (Nat × Nat)} (h : LampsAt l s m K) (hm : l.length ≤ m) : lampsO l s = some K := by
  unfold LampsAt at h
  rw [h, lampsF_end hm]; simp
theorem lampsO_len {l : List Int} {s : Int} {K : List (Nat × Nat)} (h : lampsO l s = some K) : K.length ≤ l.length := by
  have := (lampsO_greedy h).len
  simpa using this

def LampsPost (l : List Int) (s : Int) (w : World) (e : Ending) (w' : World) : Prop :=
  Below w.heap.size w w' ∧ ((lampsO l s = none ∧ e = .returned (.tuple #[.slice none 0 0, .bool false])) ∨ ∃ K v, lampsO l s = some K ∧ e = .returned (.tuple #[v, .bool true]) ∧ OwnP w' w.heap.size 45 v (lmp K))

set_option maxHeartbeats 2000000 in
theorem lamps_any (A : Option Addr) (c : Nat) (l : List Int) (s : Int) (w : World) (hr : RdI w w.heap.size A (cum l)) (hm : ∀ d ∈ l, 0 ≤ d ∧ d ≤ 100) (hl : l.length ≤ 600) (hs : 0 ≤ s) (hs2 : s ≤ 1000000) :
    Calls Try.prog 41 #[.slice A (cum l).length c, .int .i64 s] w (LampsPost l s w) := by
  have HR := Lib.hid hr
  have HD := Lib.hid (fun (W : World) (a : Nat) (ha : a ≤ l.length) (hW : Below w.heap.size w W) => down_any A c l a s W (hr.on hW) hm hl ha hs hs2)
  have HP := Lib.hid (fun (W : World) => depth_any A (cum l).length c W (by rw [cum_length]; omega))
  have hcl := cum_length l
  rw [show (((cum l).length : Nat) : Int) - 1 = (l.length : Int) by omega] at HP
  have H0 : Hid (∀ w', Below w.heap.size w w' → lampsO l s = none → LampsPost l s w (.returned (.tuple #[.slice none 0 0, .bool false])) w') := Lib.hid (fun w' h e => ⟨h, .inl ⟨e, rfl⟩⟩)
  have H1 : Hid (∀ w' K v, Below w.heap.size w w' → lampsO l s = some K → OwnP w' w.heap.size 45 v (lmp K) → LampsPost l s w (.returned (.tuple #[v, .bool true])) w') := Lib.hid (fun w' K v h e o => ⟨h, .inr ⟨K, v, e, rfl, o⟩⟩)
  have HZ := Lib.hid (lampsAt_zero l s)
  have HN0 := Lib.hid (fun m K => lampsAt_none (l := l) (s := s) (m := m) (K := K))
  have HNX := Lib.hid (fun m K => lampsAt_next (l := l) (s := s) (m := m) (K := K))
  have HEN := Lib.hid (fun m K => lampsAt_end (l := l) (s := s) (m := m) (K := K))
  have HLO := Lib.hid (fun m => dn_lo l m s)
  have HHI := Lib.hid (fun m (h : m ≤ l.length) => dn_hi (l := l) (a := m) (s := s) h)
  clear hr hm hcl
  generalize (cum l).length = q at *
  generalize hn : l.length = n at *
  clear hn
  go_enter Try.func41, Try.ntmps41
  go_wp2
  go_loopg [6, 7] n (fun kk v u wr => ∃ (m : Nat) (K : List (Nat × Nat)), u = .int .i64 m ∧ m ≤ n ∧ K.length ≤ m ∧ n - m ≤ kk ∧ Hid (LampsAt l s m K) ∧ OwnP wr w.heap.size 45 v (lmp K) ∧ Below w.heap.size w wr)
  case atStart => exact ⟨0, [], rfl, by omega, by simp, by omega, HZ, OwnP.nil _ _ _, Below.refl _ _⟩
  case round =>
    obtain ⟨m, K, rfl, hmn, hK, hkk, hQ, hO, hB⟩ := hrel
    have HO := Lib.hid hO; clear hO
    have HB := Lib.hid hB; clear hB
    by_cases hlt : m < n
    · have HD1 := Lib.hid (fun W => HD.out W m hmn)
      have l1 := HLO.out m
      have h1 := HHI.out m hmn
      by_cases he : dn l m s = m
      · have HE := Lib.hid (HN0.out m K hQ.out hlt he)
        rw [he] at HD1
        clear he l1 h1 hQ
        go_wp2_with (first
          | (go_at_call 27; refine (HP.out _).mono ?_; rintro e w' ⟨rfl, rfl⟩)
          | (go_at_call 29; refine (HD1.out _ HB.out).mono ?_; rintro e w1 ⟨rfl, h1⟩))
        go_ret2
        exact H0.out _ (HB.out.trs h1) HE.out
      · have HE := Lib.hid (HNX.out m K hQ.out hlt he)
        have HD2 := Lib.hid (fun W => HD.out W (dn l m s) h1)
        have l2 := HLO.out (dn l m s)
        have h2 := HHI.out (dn l m s) h1
        have hne : ¬ ((dn l m s : Nat) : Int) = (m : Int) := by omega
        clear he hQ
        generalize dn l (dn l m s) s = m2 at *
        generalize dn l m s = a at *
        go_wp2_with (first
          | (go_at_call 27; refine (HP.out _).mono ?_; rintro e w' ⟨rfl, rfl⟩)
          | (go_at_call 29; first
              | (have := tok2; fail)
              | (have := tok; refine (HD2.out _ hB3).mono ?_; rintro e w3 ⟨rfl, h3⟩; have tok2 := trivial)
              | (refine (HD1.out _ HB.out).mono ?_; rintro e w1 ⟨rfl, h1⟩; have tok := trivial; have hO1 := HO.out.kept h1; have hB1 := HB.out.trs h1)
              )
          | (at_builtin; refine wp_app_pair 61 45 rfl (.tmp 20) (.tmp 24) rfl Try.underlying61 infoLamp _ w.heap.size _ (lmp K) (a : Int) (m : Int) rfl rfl hO1 (by rw [lmp_len]; omega) hB1.size ?_; intro v' w2 hO2 hB2 _; have hB3 := hB1.trans hB2; have HO2 := Lib.hid hO2; clear hO2 hO1))
        go_roundg (n - m2)
        case measure => omega
        case rel => exact ⟨m2, K ++ [(a, m)], rfl, by omega, by simp; omega, by omega, HE, by rw [lmp_snoc]; exact HO2.out.kept h3, hB3.trs h3⟩
    · obtain rfl : m = n := by omega
      have HE := Lib.hid (HEN.out m K hQ.out (Nat.le_refl _))
      clear hQ
      go_wp2_with (go_at_call 27; refine (HP.out _).mono ?_; rintro e w' ⟨rfl, rfl⟩)
      go_ret2
      exact H1.out _ _ _ HB.out HE.out HO.out
end Go.Proofs.Ytbocedbonaeohaa
