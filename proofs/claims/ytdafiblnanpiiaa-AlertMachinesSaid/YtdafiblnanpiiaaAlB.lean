/- Walks over package alert and its reference: stretches and the demand. -/
import Derived.Test.YtdafiblnanpiiaaAlA
namespace Go.Proofs.Ytdafiblnanpiiaa
set_option linter.unusedVariables false
open Go.RowKit

/-- the first error -/
def gateT (v r : Bool) : Int := if v then (if r then 0 else 2) else 80
def valT (g x : Int) : Int := if g = 0 then x else 0
theorem valT_ok {g x : Int} (h : g = 0) : valT g x = x := if_pos h
theorem valT_no {g x : Int} (h : g ≠ 0) : valT g x = 0 := if_neg h
def strB (a b : Int) : Bool := decide (0 ≤ a) && decide (a < b) && decide (b ≤ 100)
theorem strB_iff {a b : Int} : strB a b = true ↔ 0 ≤ a ∧ a < b ∧ b ≤ 100 := by simp [strB, and_assoc]

theorem isStretch_any (a b : Int) (w : World) :
    Calls Try.prog 55 #[.int .i64 a, .int .i64 b] w fun e w' => e = .returned (.bool (strB a b)) ∧ w = w' := by
  unfold strB
  by_cases h1 : 0 ≤ a
  · by_cases h2 : a < b
    · have d1 : decide (0 ≤ a) = true := by simpa using h1
      have d2 : decide (a < b) = true := by simpa using h2
      have D := Lib.hid (And.intro d1 d2)
      go_enter Try.func55, Try.ntmps55
      go_wp2
      go_ret
      exact ⟨ret_bool (by first | rfl | (rw [D.out.1, D.out.2]; simp)), rfl⟩
    · have d1 : decide (0 ≤ a) = true := by simpa using h1
      have d2 : decide (a < b) = false := by simpa using h2
      have D := Lib.hid (And.intro d1 d2)
      go_enter Try.func55, Try.ntmps55
      go_wp2
      go_ret
      exact ⟨ret_bool (by first | rfl | (rw [D.out.1, D.out.2]; simp)), rfl⟩
  · have d1 : decide (0 ≤ a) = false := by simpa using h1
    have D := Lib.hid d1
    go_enter Try.func55, Try.ntmps55
    go_wp2
    go_ret
    exact ⟨ret_bool (by first | rfl | (rw [D.out]; simp)), rfl⟩
theorem refisStretch_any (a b : Int) (w : World) :
    Calls Try.prog 57 #[.int .i64 a, .int .i64 b] w fun e w' => e = .returned (.bool (strB a b)) ∧ w = w' := by
  have hs : strB a b = (btw 0 a 100 && btw 0 b 100 && decide (a < b)) := by
    rw [Bool.eq_iff_iff, strB_iff]; simp only [Bool.and_eq_true, btw_iff, decide_eq_true_eq]; omega
  rw [hs]
  cases h1 : btw 0 a 100
  · go_enter Try.func57, Try.ntmps57
    go_wp2_with (go_at_call 63; (with_reducible refine (within_any _ _ _ _).mono ?_); rintro e w' ⟨rfl, rfl⟩)
    go_ret
    exact ⟨ret_bool (by simp), rfl⟩
  · cases h2 : btw 0 b 100
    · go_enter Try.func57, Try.ntmps57
      go_wp2_with (go_at_call 63; (with_reducible refine (within_any _ _ _ _).mono ?_); rintro e w' ⟨rfl, rfl⟩)
      go_ret
      exact ⟨ret_bool (by simp), rfl⟩
    · go_enter Try.func57, Try.ntmps57
      go_wp2_with (go_at_call 63; (with_reducible refine (within_any _ _ _ _).mono ?_); rintro e w' ⟨rfl, rfl⟩)
      go_ret
      exact ⟨ret_bool (by simp), rfl⟩

/-- the work of a task that must be done in a stretch -/
def inS (L : List (Int × Int × Int)) (a b : Int) (k : Nat) : Int := if a ≤ ta L k ∧ tb L k ≤ b then tc L k else 0
def demT (L : List (Int × Int × Int)) (a b : Int) : Nat → Int
  | 0 => 0
  | n + 1 => demT L a b n + inS L a b n
theorem demT_bd {L : List (Int × Int × Int)} (h : okT L) (a b : Int) (n : Nat) (hn : n ≤ L.length) : 0 ≤ demT L a b n ∧ demT L a b n ≤ 100 * n := by
  induction n with
  | zero => simp [demT]
  | succ n ih =>
    have h1 := ih (by omega)
    have h2 := h.2 n (by omega)
    have h3 : 0 ≤ inS L a b n ∧ inS L a b n ≤ 100 := by unfold inS; split <;> omega
    simp only [demT]; omega
def dem (L : List (Int × Int × Int)) (a b : Int) : Int := demT L a b L.length
theorem dem_bd {L : List (Int × Int × Int)} (h : okT L) (a b : Int) : 0 ≤ dem L a b ∧ dem L a b ≤ 1200 := by
  have := demT_bd h a b L.length (Nat.le_refl _)
  have := h.1
  unfold dem; omega

theorem demand_any (A : Option Addr) (c : Nat) (L : List (Int × Int × Int)) (a b : Int) (w : World) (hr : RdT w w.heap.size A L) (hok : okT L) :
    Calls Try.prog 56 #[.slice A L.length c, .int .i64 a, .int .i64 b] w fun e w' => e = .returned (.int .i64 (dem L a b)) ∧ Below w.heap.size w w' := by
  have HR := Lib.hid hr; clear hr
  have HO := Lib.hid hok
  have hn12 := hok.1.2
  clear hok
  have HD := Lib.hid (show dem L a b = demT L a b L.length from rfl)
  generalize dem L a b = dm at *
  generalize hn : L.length = n at *
  have HN := Lib.hid hn; clear hn
  go_enter Try.func56, Try.ntmps56
  go_wp2
  go_loopg [7, 12] n (fun k s t wr => ∃ i : Nat, s = .int .i64 (demT L a b i) ∧ t = .int .i64 i ∧ i ≤ n ∧ n - i ≤ k ∧ Below w.heap.size w wr)
  case atStart => exact ⟨0, rfl, rfl, by omega, by omega, Below.refl _ _⟩
  case round =>
    obtain ⟨i, rfl, rfl, hi, hk, hB⟩ := hrel
    by_cases hlt : i < n
    · obtain ⟨bb, o, rfl, hb, c1, c2, c3⟩ := HR.out.at_ (k := i) (by rw [HN.out]; exact hlt)
      rw [← hB.cell hb] at c1 c2 c3
      have hbd := demT_bd HO.out a b i (by rw [HN.out]; omega)
      have hq := HO.out.2 i (by rw [HN.out]; exact hlt)
      have hs : demT L a b (i + 1) = demT L a b i + (if a ≤ ta L i ∧ tb L i ≤ b then tc L i else 0) := rfl
      have HS := Lib.hid hs; clear hs
      have hd0 : 0 ≤ demT L a b i := hbd.1
      have hd1 : demT L a b i ≤ 1200 := by omega
      generalize hgd : demT L a b i = d at *
      have GD := Lib.hid hgd; clear hgd
      generalize ta L i = x at *
      generalize tb L i = y at *
      generalize tc L i = z at *
      have hz0 : 0 ≤ z := by omega
      have hz1 : z ≤ 100 := by omega
      clear hbd hq
      by_cases h1 : a ≤ x
      · by_cases h2 : y ≤ b
        all_goals
          have HH := Lib.hid (And.intro h1 h2)
          go_wp2
          go_roundg (n - (i + 1))
          case measure => omega
          case rel => exact ⟨i + 1, by first | rw [HS.out, if_pos HH.out] | rw [HS.out, if_neg (by have := HH.out; omega), Int.add_zero], by go_num, by omega, by omega, hB.trs (below_alloc _ _)⟩
      · have HH := Lib.hid h1
        go_wp2
        go_roundg (n - (i + 1))
        case measure => omega
        case rel => exact ⟨i + 1, by rw [HS.out, if_neg (by have := HH.out; omega), Int.add_zero], by go_num, by omega, by omega, hB.trs (below_alloc _ _)⟩
    · obtain rfl : i = n := by omega
      go_wp2
      go_ret
      exact ⟨ret_int (by rw [HD.out]), hB⟩

theorem refdemand_any (A : Option Addr) (c : Nat) (L : List (Int × Int × Int)) (a b : Int) (w : World) (hr : RdT w w.heap.size A L) (hok : okT L) :
    Calls Try.prog 58 #[.slice A L.length c, .int .i64 a, .int .i64 b] w fun e w' => e = .returned (.int .i64 (dem L a b)) ∧ w = w' := by
  have HR := Lib.hid hr; clear hr
  have HO := Lib.hid hok
  have hn12 := hok.1.2
  clear hok
  have HD := Lib.hid (show dem L a b = demT L a b L.length from rfl)
  generalize dem L a b = dm at *
  generalize hn : L.length = n at *
  have HN := Lib.hid hn; clear hn
  go_enter Try.func58, Try.ntmps58
  go_wp2
  go_loopg [7, 8] n (fun k s t wr => ∃ i : Nat, s = .int .i64 (demT L a b i) ∧ t = .int .i64 i ∧ i ≤ n ∧ n - i ≤ k ∧ w = wr)
  case atStart => exact ⟨0, rfl, rfl, by omega, by omega, rfl⟩
  case round =>
    obtain ⟨i, rfl, rfl, hi, hk, rfl⟩ := hrel
    by_cases hlt : i < n
    · obtain ⟨bb, o, rfl, hb, c1, c2, c3⟩ := HR.out.at_ (k := i) (by rw [HN.out]; exact hlt)
      have hbd := demT_bd HO.out a b i (by rw [HN.out]; omega)
      have hq := HO.out.2 i (by rw [HN.out]; exact hlt)
      have hs : demT L a b (i + 1) = demT L a b i + (if a ≤ ta L i ∧ tb L i ≤ b then tc L i else 0) := rfl
      have HS := Lib.hid hs; clear hs
      have hd0 : 0 ≤ demT L a b i := hbd.1
      have hd1 : demT L a b i ≤ 1200 := by omega
      generalize hgd : demT L a b i = d at *
      have GD := Lib.hid hgd; clear hgd
      generalize ta L i = x at *
      generalize tb L i = y at *
      generalize tc L i = z at *
      have hz0 : 0 ≤ z := by omega
      have hz1 : z ≤ 100 := by omega
      clear hbd hq
      by_cases h1 : a ≤ x
      · by_cases h2 : y ≤ b
        all_goals
          have HH := Lib.hid (And.intro h1 h2)
          go_wp2
          go_roundg (n - (i + 1))
          case measure => omega
          case rel => exact ⟨i + 1, by first | rw [HS.out, if_pos HH.out] | rw [HS.out, if_neg (by have := HH.out; omega), Int.add_zero], by go_num, by omega, by omega, rfl⟩
      · have HH := Lib.hid h1
        go_wp2
        go_roundg (n - (i + 1))
        case measure => omega
        case rel => exact ⟨i + 1, by rw [HS.out, if_neg (by have := HH.out; omega), Int.add_zero], by go_num, by omega, by omega, rfl⟩
    · obtain rfl : i = n := by omega
      go_wp2
      go_ret
      exact ⟨ret_int (by rw [HD.out]), rfl⟩

/-- a number and an error -/
theorem ret_ok {g x y e : Int} (hg : g = 0) (hx : y = x) (he : e = 0) : Ending.returned (.tuple #[.int .i64 y, .int .i64 e]) = .returned (.tuple #[.int .i64 (valT g x), .int .i64 g]) := by rw [hg, hx, he, valT_ok rfl]
theorem ret_er {g x e : Int} (hg : g ≠ 0) (he : e = g) : Ending.returned (.tuple #[.int .i64 0, .int .i64 e]) = .returned (.tuple #[.int .i64 (valT g x), .int .i64 g]) := by rw [he, valT_no hg]
def DemandE (L : List (Int × Int × Int)) (a b : Int) : Int := gateT (vldT L) (strB a b)

theorem Demand_any (A : Option Addr) (c : Nat) (L : List (Int × Int × Int)) (a b : Int) (w : World) (hr : RdT w w.heap.size A L) (hl : L.length ≤ 1125899906842624) :
    Calls Try.prog 16 #[.slice A L.length c, .int .i64 a, .int .i64 b] w fun e w' => e = .returned (.tuple #[.int .i64 (valT (DemandE L a b) (dem L a b)), .int .i64 (DemandE L a b)]) ∧ Below w.heap.size w w' := by
  have HV := Lib.hid (Valid_any A c L w hr hl)
  have HD := Lib.hid (fun (hv : vldT L = true) W (hW : Below w.heap.size w W) => demand_any A c L a b W (hr.on hW) (okT_of hv))
  have hE : DemandE L a b = gateT (vldT L) (strB a b) := rfl
  rw [hE]
  clear hE hr
  generalize dem L a b = dm at *
  generalize L.length = n at *
  have HSB := Lib.hid (isStretch_any a b)
  cases hv : vldT L <;> rw [hv] at HV
  · clear HD hv
    generalize strB a b = sb at *
    go_enter Try.func16, Try.ntmps16
    go_wp2_with (go_at_call 49; refine HV.out.mono ?_; rintro e w' ⟨rfl, hB⟩)
    go_ret2
    exact ⟨ret_er (by simp [gateT]) rfl, hB⟩
  · have HD2 := Lib.hid (HD.out hv)
    clear HD hv
    cases hs : strB a b <;> rw [hs] at HSB <;> clear hs
    · go_enter Try.func16, Try.ntmps16
      go_wp2_with (first | (go_at_call 49; refine HV.out.mono ?_; rintro e w' ⟨rfl, hB⟩) | (go_at_call 55; refine (HSB.out _).mono ?_; rintro e w' ⟨rfl, rfl⟩))
      go_ret2
      exact ⟨ret_er (by decide) rfl, hB⟩
    · go_enter Try.func16, Try.ntmps16
      go_wp2_with (first | (go_at_call 49; refine HV.out.mono ?_; rintro e w' ⟨rfl, hB⟩) | (go_at_call 55; refine (HSB.out _).mono ?_; rintro e w' ⟨rfl, rfl⟩) | (go_at_call 56; refine (HD2.out _ hB).mono ?_; rintro e w2 ⟨rfl, h2⟩))
      go_ret2
      exact ⟨ret_ok rfl rfl rfl, hB.trs h2⟩
theorem refDemand_any (A : Option Addr) (c : Nat) (L : List (Int × Int × Int)) (a b : Int) (w : World) (hr : RdT w w.heap.size A L) (hl : L.length ≤ 1125899906842624) :
    Calls Try.prog 17 #[.slice A L.length c, .int .i64 a, .int .i64 b] w fun e w' => e = .returned (.tuple #[.int .i64 (valT (DemandE L a b) (dem L a b)), .int .i64 (DemandE L a b)]) ∧ Below w.heap.size w w' := by
  have HV := Lib.hid (refValid_any A c L w hr hl)
  have HD := Lib.hid (fun (hv : vldT L = true) W (hW : Below w.heap.size w W) => refdemand_any A c L a b W (hr.on hW) (okT_of hv))
  have hE : DemandE L a b = gateT (vldT L) (strB a b) := rfl
  rw [hE]
  clear hE hr
  generalize dem L a b = dm at *
  generalize L.length = n at *
  have HSB := Lib.hid (refisStretch_any a b)
  cases hv : vldT L <;> rw [hv] at HV
  · clear HD hv
    generalize strB a b = sb at *
    go_enter Try.func17, Try.ntmps17
    go_wp2_with (go_at_call 22; refine HV.out.mono ?_; rintro e w' ⟨rfl, hB⟩)
    go_ret2
    exact ⟨ret_er (by simp [gateT]) rfl, hB⟩
  · have HD2 := Lib.hid (HD.out hv)
    clear HD hv
    cases hs : strB a b <;> rw [hs] at HSB <;> clear hs
    · go_enter Try.func17, Try.ntmps17
      go_wp2_with (first | (go_at_call 22; refine HV.out.mono ?_; rintro e w' ⟨rfl, hB⟩) | (go_at_call 57; refine (HSB.out _).mono ?_; rintro e w' ⟨rfl, rfl⟩))
      go_ret2
      exact ⟨ret_er (by decide) rfl, hB⟩
    · go_enter Try.func17, Try.ntmps17
      go_wp2_with (first | (go_at_call 22; refine HV.out.mono ?_; rintro e w' ⟨rfl, hB⟩) | (go_at_call 57; refine (HSB.out _).mono ?_; rintro e w' ⟨rfl, rfl⟩) | (go_at_call 58; refine (HD2.out _ hB).mono ?_; rintro e w2 ⟨rfl, rfl⟩))
      go_ret2
      exact ⟨ret_ok rfl rfl rfl, hB⟩
end Go.Proofs.Ytdafiblnanpiiaa
