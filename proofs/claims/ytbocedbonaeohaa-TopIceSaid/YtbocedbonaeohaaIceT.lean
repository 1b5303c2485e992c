/- Walks over package ice: AreDark. -/
import Derived.Test.YtbocedbonaeohaaIceS
namespace Go.Proofs.Ytbocedbonaeohaa
set_option linter.unusedVariables false
open Go.RowKit

theorem keepB {wr W W' : World} {p : Addr} {x : Value} (h : Below W.heap.size W W') (hs : Below wr.heap.size wr W) (hp : p.block < wr.heap.size) (m : wr.cell? p = some x) : W'.cell? p = some x := ((hs.trs h).cell hp).trans m

def DarkR (L : List (Int × Int)) (s : Int) (la : List Int) : Bool := btw 0 s 100000 && riseB la (((mets L).length : Int) - 1)
def DarkB (L : List (Int × Int)) (s : Int) (la : List Int) : Bool := decide (gate (vld L) (DarkR L s la) = 0) && darkB (mets L) s (la.map Int.toNat)
theorem vld_ne {L : List (Int × Int)} (h : vld L = true) : 0 < (mets L).length := by
  obtain ⟨h1, h2, h3⟩ := vld_spec h
  have h4 := h3 0 (by omega)
  cases L with
  | nil => simp at h1
  | cons x L =>
    rw [show mets (x :: L) = List.replicate x.1.toNat x.2 ++ mets L from rfl, List.length_append, List.length_replicate]
    have : pa (x :: L) 0 = x.1 := rfl
    omega
/-- what is asked of dark places holds: they are naturals that ascend -/
theorem dark_nat {L : List (Int × Int)} {s : Int} {la : List Int} (hv : vld L = true) (hR : DarkR L s la = true) : 0 ≤ s ∧ s ≤ 100000 ∧ ∃ r : List Nat, la = natL r ∧ rises r ((mets L).length - 1) ∧ DarkB L s la = darkB (mets L) s r := by
  have hg : gate (vld L) (DarkR L s la) = 0 := gate_ok hv hR
  have hne := vld_ne hv
  have hR' := hR
  unfold DarkR at hR'
  rw [Bool.and_eq_true, btw_iff, show ((mets L).length : Int) - 1 = (((mets L).length - 1 : Nat) : Int) by omega] at hR'
  obtain ⟨r, rfl, hrr⟩ := riseB_iff.1 hR'.2
  exact ⟨hR'.1.1, hR'.1.2, r, rfl, hrr, by simp [DarkB, hg, natL_toNat]⟩

set_option maxRecDepth 100000 in
set_option maxHeartbeats 4000000 in
theorem AreDark_any (A A2 : Option Addr) (c c2 : Nat) (L : List (Int × Int)) (s : Int) (la : List Int) (w : World) (hr : RdP w w.heap.size A L) (hl : L.length ≤ 1125899906842624) (hr2 : RdI w w.heap.size A2 la) (hl2 : la.length ≤ 1000000) :
    Calls Try.prog 11 #[.slice A L.length c, .int .i64 s, .slice A2 la.length c2] w fun e w' => e = .returned (.tuple #[.bool (DarkB L s la), .int .i64 (gate (vld L) (DarkR L s la))]) ∧ Below w.heap.size w w' := by
  have hB0 : Below w.heap.size w ((w.alloc (.cells #[.int .i64 s] 3)).alloc (.cells #[.slice A2 la.length c2] 23)) := (below_alloc _ _).trs (below_alloc _ _)
  have HO := Lib.hid (opened_any 30 #[.pointer (some ⟨w.heap.size, 0, none⟩), .pointer (some ⟨w.heap.size + 1, 0, none⟩)] A c L (DarkR L s la) _ (hr.on hB0) hl (enters_of Try.func30 (by kernel_rfl) rfl) (by
    intro hv W A' c' hB hR
    have h600 := mets_len600 (okL_of_vld hv)
    rw [cum_length]
    exact AreDark1_any A' A2 (mets L).length c' c2 w.heap.size (w.heap.size + 1) s la W (by omega) (keep21 hB) (keep22 hB) ((hr2.on hB0).on hB) hl2))
  have HG : Hid (gate (vld L) (DarkR L s la) ≠ 0 → DarkB L s la = false) := Lib.hid (fun h => by simp [DarkB, h])
  have HD : Hid (vld L = true → DarkR L s la = true → gate (vld L) (DarkR L s la) = 0 ∧ ∃ r : List Nat, la = natL r ∧ (∀ k, k < r.length → nx r k ≤ (mets L).length) ∧ DarkB L s la = darkB (mets L) s r ∧ (mets L).length ≤ 600 ∧
      (∀ W A' c' (a : Nat), a ≤ (mets L).length → RdI W W.heap.size A' (cum (mets L)) → Calls Try.prog 29 #[.slice A' (cum (mets L)).length c', .int .i64 a, .int .i64 s] W fun e w' => e = .returned (.int .i64 (dn (mets L) a s)) ∧ Below W.heap.size W w')) := Lib.hid (fun hv hR => by
    have hok := okL_of_vld hv
    have h600 := mets_len600 hok
    obtain ⟨h1, h2, r, hla, hrr, hV⟩ := dark_nat hv hR
    exact ⟨gate_ok hv hR, r, hla, fun k hk => by have := ((rises_iff r _).1 hrr).1 k hk; omega, hV, h600, fun W A' c' a ha h => down_any A' c' (mets L) a s W h (mets_mem hok) h600 ha (by omega) (by omega)⟩)
  have HR2 := Lib.hid (hr2.on hB0)
  clear hr hr2
  generalize hLB : DarkB L s la = V at *
  clear hLB
  go_enter Try.func11, Try.ntmps11
  go_wp2_with (go_at_call 23; refine HO.out.mono ?_; rintro e w1 ⟨hB, h⟩; have k1 := keep21 hB; have k2 := keep22 hB; rcases h with ⟨hg, rfl⟩ | ⟨hv, hrt, A', c', rfl, hR⟩)
  · go_ret2
    exact ⟨ret_bi (HG.out hg).symm rfl, hB0.trs hB⟩
  · obtain ⟨hg, r, hla, hrr, hV, h600, hD⟩ := HD.out hv hrt
    have HGG := Lib.hid hg
    have hlen : la.length = r.length := by rw [hla, natL_len]
    have HIX : Hid (∀ k, ix la k = (nx r k : Int)) := Lib.hid (fun k => by rw [hla]; exact ix_natL r k)
    have HNX := Lib.hid hrr
    have HDD := Lib.hid hD
    have HR1 := Lib.hid (HR2.out.on hB)
    have HR := Lib.hid hR
    have HB1 := Lib.hid (hB0.trs hB)
    have hsz : w.heap.size + 1 < w1.heap.size := by have := hB.size; simp at this; omega
    have HHI := Lib.hid (fun a (ha : a ≤ (mets L).length) => dn_hi (l := mets L) (a := a) (s := s) ha)
    have HNO : Hid (∀ j, j + 1 < r.length → darkP (mets L) s r j = true → V = false) := Lib.hid (fun j hj h => by rw [hV]; unfold darkB; rw [anyF_iff.2 ⟨j, by omega, h⟩]; rfl)
    have HYES : Hid ((∀ t, t + 1 < r.length → darkP (mets L) s r t = false) → V = true) := Lib.hid (fun h => by rw [hV]; unfold darkB; rw [anyF_no.2 (fun k hk => h k (by omega))]; rfl)
    have HPD : Hid (∀ j, darkP (mets L) s r j = (decide (nx r j < dn (mets L) (nx r j) s) && decide (nx r (j + 1) < dn (mets L) (dn (mets L) (nx r j) s) s))) := fun j => rfl
    have K12 := Lib.hid (And.intro k1 k2)
    clear HD HG HO hg hla hrr hV hD hR hv hrt hB hB0 HR2 k1 k2
    generalize (cum (mets L)).length = q at *
    generalize hn : (mets L).length = n at *
    have HN := Lib.hid hn; clear hn
    generalize hm : la.length = m at *
    have HM := Lib.hid hm; clear hm
    have HML := Lib.hid hlen; clear hlen
    go_loopg [24] m (fun kk u wr => ∃ i : Nat, u = .int .i64 i ∧ i ≤ m ∧ m - i ≤ kk ∧ Hid (∀ t, t + 1 < i → darkP (mets L) s r t = false) ∧ Below w1.heap.size w1 wr)
    case atStart => exact ⟨0, rfl, by omega, by omega, Lib.hid (fun t ht => by omega), Below.refl _ _⟩
    case round =>
      obtain ⟨i, rfl, hi, hkk, hQ, hB⟩ := hrel
      have j1 := (hB.cell (p := ⟨w.heap.size, 0, none⟩) (by simp only; omega)).trans K12.out.1
      have j2 := (hB.cell (p := ⟨w.heap.size + 1, 0, none⟩) (by simp only; omega)).trans K12.out.2
      have hszr : w.heap.size + 1 < wr.heap.size := Nat.lt_of_lt_of_le hsz hB.size
      have hszq : w.heap.size < wr.heap.size := by omega
      have HB := Lib.hid hB
      by_cases hlt : i < m
      · obtain ⟨b, o, rfl, hb, q1⟩ := HR1.out.at_ (k := i) (by rw [HM.out]; exact hlt)
        rw [← hB.cell hb, HIX.out] at q1
        have hbr : b < wr.heap.size := Nat.lt_of_lt_of_le hb hB.size
        cases i with
        | zero =>
          have e0 : ((0 : Nat) : Int) = 0 := rfl
          rw [e0]
          rw [Nat.add_zero] at q1
          clear hB hQ j1 j2
          generalize nx r 0 = x at *
          go_wp2
          go_roundg (m - 1)
          case measure => omega
          case rel => exact ⟨1, by first | rfl | go_num, by omega, by omega, Lib.hid (fun t ht => by omega), HB.out⟩
        | succ j =>
          obtain ⟨b', o', he, _, q2⟩ := HR1.out.at_ (k := j) (by rw [HM.out]; omega)
          injection he with he
          injection he with e1 e2 _
          subst e1; subst e2
          rw [← hB.cell hb, HIX.out] at q2
          have e3 : ((j + 1 : Nat) : Int) = (j : Int) + 1 := by omega
          rw [e3]
          have ha := HNX.out j (by rw [← HML.out]; omega)
          have hHI := HHI.out (nx r j) ha
          have hpd := HPD.out j
          have HDa := Lib.hid (fun W hW => HDD.out W A' c' (nx r j) ha (HR.out.on hW))
          have HDb := Lib.hid (fun W hW => HDD.out W A' c' (dn (mets L) (nx r j) s) hHI (HR.out.on hW))
          have HNX1 : Hid (darkP (mets L) s r j = false → ∀ t, t + 1 < j + 1 + 1 → darkP (mets L) s r t = false) := Lib.hid (fun h t ht => by
            by_cases e : t = j
            · subst e; exact h
            · exact hQ.out t (by omega))
          have HNO1 := Lib.hid (HNO.out j (by rw [← HML.out]; exact hlt))
          have hwj : IntKind.i64.wrap ((j : Int) + 1 - 1) = (j : Int) := by rw [show (j : Int) + 1 - 1 = j by omega]; exact IntWalk.i64_in _ (by omega)
          have hwj2 : IntKind.i64.wrap (j : Int) = (j : Int) := IntWalk.i64_in _ (by omega)
          have i0 : 0 ≤ (j : Int) := by omega
          have i1 : (j : Int) < (m : Int) := by omega
          have hne : ¬ (j : Int) + 1 = 0 := by omega
          have hlt2 : (j : Int) + 1 < (m : Int) := by omega
          have hB0 := HB.out
          clear hQ hlt hB
          generalize hv2 : dn (mets L) (dn (mets L) (nx r j) s) s = v2 at *
          generalize hv1 : dn (mets L) (nx r j) s = v at *
          clear hv1 hv2
          generalize nx r (j + 1) = y at *
          generalize nx r j = x at *
          have hB := hB0
          go_wp2_with fail
          go_region_held3 (fun w' => Below wr.heap.size wr w' ∧ w'.cell? ⟨w.heap.size, 0, none⟩ = some (.int .i64 s) ∧ w'.cell? ⟨w.heap.size + 1, 0, none⟩ = some (.slice (some ⟨b, o, none⟩) m c2) ∧ w'.cell? ⟨b, o + j, none⟩ = some (.int .i64 (x : Int))) (first | exact ⟨(‹Below wr.heap.size wr _ ∧ _›).1.trs h2, keepB h2 (‹Below wr.heap.size wr _ ∧ _›).1 hszq j1, keepB h2 (‹Below wr.heap.size wr _ ∧ _›).1 hszr j2, keepB h2 (‹Below wr.heap.size wr _ ∧ _›).1 hbr q2⟩ | exact ⟨(Below.refl _ _).drewsN 1, j1, j2, q2⟩ | go_keep) ((go_at_call 29; refine (HDa.out _ (hB.trs (‹Below wr.heap.size wr _ ∧ _›).1)).mono ?_; rintro e w2 ⟨rfl, h2⟩))
          all_goals
            obtain ⟨hBw, z1, z2, z3⟩ := ‹Below wr.heap.size wr _ ∧ _›
            have HBw := Lib.hid (hB.trs hBw)
            have HBW := Lib.hid ((HB1.out.trs hB).trs hBw)
            clear hBw j1 j2 q1 q2
            by_cases c1 : x < v
            · by_cases c2' : y < v2
              · have HE := Lib.hid (HNO1.out (by rw [hpd]; simp [c1, c2']))
                clear hpd HNX1 HNO1
                go_wp2_with (go_at_call 29; refine (HDb.out _ HBw.out).mono ?_; rintro e w3 ⟨rfl, h3⟩)
                go_ret2
                exact ⟨ret_bi HE.out.symm HGG.out.symm, HBW.out.trs h3⟩
              · have HE := Lib.hid (HNX1.out (by rw [hpd]; simp [c2']))
                clear hpd HNX1 HNO1
                go_wp2_with (go_at_call 29; refine (HDb.out _ HBw.out).mono ?_; rintro e w3 ⟨rfl, h3⟩)
                go_roundg (m - (j + 1 + 1))
                case measure => omega
                case rel => exact ⟨j + 1 + 1, by first | rfl | go_num, by omega, by omega, HE, HBw.out.trs h3⟩
            · have HE := Lib.hid (HNX1.out (by rw [hpd]; simp [c1]))
              clear hpd HNX1 HNO1
              have c1d : decide ((x : Int) < (v : Int)) = false := by simpa using c1
              go_wp2
              go_roundg (m - (j + 1 + 1))
              case measure => omega
              case rel => exact ⟨j + 1 + 1, by first | rfl | go_num, by omega, by omega, HE, HBw.out⟩
      · obtain rfl : i = m := by omega
        have HY := Lib.hid (HYES.out (fun t ht => hQ.out t (by rw [HML.out]; exact ht)))
        clear hQ hB
        go_wp2
        go_ret2
        exact ⟨ret_bi HY.out.symm HGG.out.symm, HB1.out.trs HB.out⟩
end Go.Proofs.Ytbocedbonaeohaa
