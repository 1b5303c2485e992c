/- Walks over the reference of alert: the slack and the first stretch that is overfull. -/
import Derived.Test.YtdafiblnanpiiaaAlF
namespace Go.Proofs.Ytdafiblnanpiiaa
open Go.RowKit
set_option linter.unusedSimpArgs false
set_option linter.unusedVariables false

theorem strUp_mem {a b : Nat} (ha : a < 100) (hb : b ≤ 101) : ∀ x ∈ strUp a ++ strRow a b, x ∈ strAll := fun x hx => (strPart_pre ha hb).subset hx
theorem strUp_mem0 {a : Nat} (ha : a ≤ 100) : ∀ x ∈ strUp a, x ∈ strAll := fun x hx => by rw [← strAll_eq]; exact (strUp_pre ha).subset hx

set_option maxHeartbeats 1000000 in
theorem refslack_any (A : Option Addr) (c : Nat) (L : List (Int × Int × Int)) (w : World) (hr : RdT w w.heap.size A L) (hok : okT L) :
    Calls Try.prog 62 #[.slice A L.length c] w fun e w' => e = .returned (.int .i64 (slk L)) ∧ w = w' := by
  have HD := Lib.hid (fun (x y : Int) => refdemand_any A c L x y w hr hok)
  have HBD := Lib.hid (fun x y => dem_bd hok x y)
  have HSB := Lib.hid (fun l => slkF_bd hok l)
  have HSN := Lib.hid (fun l x y => slkF_snoc L l (x, y))
  have HS : Hid (slk L = slkF L strAll) := Lib.hid rfl
  have HN := Lib.hid (show slkF L [] = 100 from rfl)
  clear hr hok
  generalize slk L = sl at *
  generalize slkF L = sf at *
  generalize dem L = dm at *
  generalize L.length = n at *
  go_enter Try.func62, Try.ntmps62
  go_wp2
  go_loopg [3, 4] 100 (fun k s t wr => ∃ a : Nat, s = .int .i64 (sf (strUp a)) ∧ t = .int .i64 a ∧ a ≤ 100 ∧ 100 - a ≤ k ∧ w = wr)
  case atStart => exact ⟨0, by rw [show strUp 0 = [] from rfl, HN.out], rfl, by omega, by omega, rfl⟩
  case round =>
    obtain ⟨a, rfl, rfl, ha, hk, rfl⟩ := hrel
    by_cases hlt : a < 100
    · have hd : decide ((a : Int) < 100) = true := by rw [decide_eq_true_eq]; omega
      have hrow := strRow_zero a
      have HR := Lib.hid hrow; clear hrow
      have HU : Hid (strUp (a + 1) = strUp a ++ strRow a 101) := Lib.hid rfl
      go_wp2
      go_loopg [3, 5] 101 (fun k s t wr => ∃ b : Nat, s = .int .i64 (sf (strUp a ++ strRow a b)) ∧ t = .int .i64 b ∧ a + 1 ≤ b ∧ b ≤ 101 ∧ 101 - b ≤ k ∧ w = wr)
      case atStart => exact ⟨a + 1, by rw [HR.out, List.append_nil], by go_num, by omega, by omega, by omega, rfl⟩
      case round =>
        obtain ⟨b, rfl, rfl, hb1, hb2, hk2, rfl⟩ := hrel
        by_cases hlb : b < 101
        · have hsb := HSB.out _ (strUp_mem hlt hb2)
          have hdb := HBD.out (a : Int) (b : Int)
          have HX : Hid (sf (strUp a ++ strRow a (b + 1)) = min (sf (strUp a ++ strRow a b)) ((b : Int) - a - dm a b)) := Lib.hid (by rw [strRow_succ hb1, ← List.append_assoc]; exact HSN.out _ _ _)
          have hD := HD.out (a : Int) (b : Int)
          have HD2 := Lib.hid hD; clear hD
          generalize sf (strUp a ++ strRow a b) = s1 at *
          generalize dm (a : Int) (b : Int) = d at *
          have hbb : b ≤ 100 := by omega
          go_wp2_with (go_at_call 58; refine HD2.out.mono ?_; rintro e w' ⟨rfl, rfl⟩)
          all_goals
            go_roundg (101 - (b + 1))
            case measure => omega
            case rel => exact ⟨b + 1, by rw [HX.out, min_if]; split <;> first | rfl | (exfalso; omega), by go_num, by omega, by omega, by omega, rfl⟩
        · obtain rfl : b = 101 := by omega
          go_wp2
          go_roundg (100 - (a + 1))
          case measure => omega
          case rel => exact ⟨a + 1, by rw [HU.out], by go_num, by omega, by omega, rfl⟩
    · obtain rfl : a = 100 := by omega
      go_wp2
      go_ret
      exact ⟨ret_int (by rw [HS.out, ← strAll_eq]), rfl⟩

theorem refSlack_any (A : Option Addr) (c : Nat) (L : List (Int × Int × Int)) (w : World) (hr : RdT w w.heap.size A L) (hl : L.length ≤ 1125899906842624) :
    Calls Try.prog 19 #[.slice A L.length c] w fun e w' => e = .returned (SlackV L) ∧ Below w.heap.size w w' := by
  have HV := Lib.hid (refValid_any A c L w hr hl)
  have HS := Lib.hid (fun (hv : vldT L = true) W (hW : Below w.heap.size w W) => refslack_any A c L W (hr.on hW) (okT_of hv))
  have H1 := Lib.hid (@SlackV_no L)
  have H2 := Lib.hid (@SlackV_yes L)
  clear hr
  generalize SlackV L = V at *
  generalize slk L = s at *
  generalize L.length = n at *
  cases hv : vldT L <;> rw [hv] at HV
  · have HV2 := Lib.hid hv; clear hv HS
    go_enter Try.func19, Try.ntmps19
    go_wp2_with (go_at_call 22; refine HV.out.mono ?_; rintro e w' ⟨rfl, hB⟩)
    go_ret2
    exact ⟨by rw [H1.out HV2.out]; first | done | rfl, hB⟩
  · have HV2 := Lib.hid hv
    have HS2 := Lib.hid (HS.out hv); clear hv HS
    go_enter Try.func19, Try.ntmps19
    go_wp2_with (first | (go_at_call 22; refine HV.out.mono ?_; rintro e w' ⟨rfl, hB⟩) | (go_at_call 62; refine (HS2.out _ hB).mono ?_; rintro e w2 ⟨rfl, rfl⟩))
    go_ret2
    exact ⟨by rw [H2.out HV2.out]; first | done | rfl, hB⟩

set_option maxHeartbeats 1000000 in
theorem refOverfull_any (A : Option Addr) (c : Nat) (L : List (Int × Int × Int)) (w : World) (hr : RdT w w.heap.size A L) (hl : L.length ≤ 1125899906842624) :
    Calls Try.prog 21 #[.slice A L.length c] w fun e w' => e = .returned (OverV L) ∧ Below w.heap.size w w' := by
  have HV := Lib.hid (refValid_any A c L w hr hl)
  have HD := Lib.hid (fun (hv : vldT L = true) (x y : Int) W (hW : Below w.heap.size w W) => refdemand_any A c L x y W (hr.on hW) (okT_of hv))
  have HBD := Lib.hid (fun (hv : vldT L = true) x y => dem_bd (okT_of hv) x y)
  have HN : Hid (vldT L = false → OverV L = .tuple #[.int .i64 0, .int .i64 0, .int .i64 80]) := Lib.hid (fun h => by unfold OverV; rw [h]; rfl)
  have HM : Hid (vldT L = true → strAll.find? (isOv L) = none → OverV L = .tuple #[.int .i64 0, .int .i64 0, .int .i64 5]) := Lib.hid (fun h h2 => by unfold OverV ovf; rw [h, h2]; rfl)
  have HY : Hid (∀ x y, vldT L = true → strAll.find? (isOv L) = some (x, y) → OverV L = .tuple #[.int .i64 x, .int .i64 y, .int .i64 0]) := Lib.hid (fun x y h h2 => by unfold OverV ovf; rw [h, h2]; rfl)
  have HI : Hid (∀ x y, isOv L (x, y) = decide (y - x < dem L x y)) := Lib.hid (fun x y => rfl)
  clear hr
  generalize OverV L = V at *
  generalize isOv L = iso at *
  generalize dem L = dm at *
  generalize L.length = n at *
  cases hv : vldT L <;> rw [hv] at HV
  · have HV2 := Lib.hid hv; clear hv HD HBD
    go_enter Try.func21, Try.ntmps21
    go_wp2_with (go_at_call 22; refine HV.out.mono ?_; rintro e w' ⟨rfl, hB⟩)
    go_ret3
    exact ⟨by rw [HN.out HV2.out]; first | done | rfl, hB⟩
  · have HV2 := Lib.hid hv
    have HD2 := Lib.hid (HD.out hv)
    have HBD2 := Lib.hid (HBD.out hv)
    clear hv HD HBD
    go_enter Try.func21, Try.ntmps21
    go_wp2_with (go_at_call 22; refine HV.out.mono ?_; rintro e w1 ⟨rfl, hB⟩)
    go_loopg [5] 100 (fun k t wr => ∃ a : Nat, Aside (∀ y ∈ strUp a, iso y = false) ∧ t = .int .i64 a ∧ a ≤ 100 ∧ 100 - a ≤ k ∧ w1 = wr)
    case atStart => exact ⟨0, (fun y hy => absurd hy (by simp [strUp]) : ∀ y ∈ strUp 0, iso y = false), rfl, by omega, by omega, rfl⟩
    case round =>
      obtain ⟨a, HA, rfl, ha, hk, rfl⟩ := hrel
      by_cases hlt : a < 100
      · have hd : decide ((a : Int) < 100) = true := by rw [decide_eq_true_eq]; omega
        have hrow := strRow_zero a
        have HR := Lib.hid hrow; clear hrow
        go_wp2
        go_loopg [6] 101 (fun k t wr => ∃ b : Nat, Aside (∀ y ∈ strUp a ++ strRow a b, iso y = false) ∧ t = .int .i64 b ∧ a + 1 ≤ b ∧ b ≤ 101 ∧ 101 - b ≤ k ∧ w1 = wr)
        case atStart => exact ⟨a + 1, (fun y hy => HA.out y (by rwa [HR.out, List.append_nil] at hy) : ∀ y ∈ strUp a ++ strRow a (a + 1), iso y = false), by go_num, by omega, by omega, by omega, rfl⟩
        case round =>
          obtain ⟨b, HBB, rfl, hb1, hb2, hk2, rfl⟩ := hrel
          by_cases hlb : b < 101
          · have hdb := HBD2.out (a : Int) (b : Int)
            have hD := HD2.out (a : Int) (b : Int) _ hB
            have HD3 := Lib.hid hD; clear hD
            have HIX := Lib.hid (HI.out (a : Int) (b : Int))
            generalize dm (a : Int) (b : Int) = d at *
            have hbb : b ≤ 100 := by omega
            have happ : strUp a ++ strRow a (b + 1) = (strUp a ++ strRow a b) ++ [((a : Int), (b : Int))] := by rw [strRow_succ hb1, List.append_assoc]
            have HAP := Lib.hid happ; clear happ
            by_cases hov : (b : Int) - a < d
            · have hdd : decide ((b : Int) - a < d) = true := by simpa using hov
              have HDD := Lib.hid hdd
              go_wp2_with (go_at_call 58; refine HD3.out.mono ?_; rintro e w' ⟨rfl, rfl⟩)
              go_ret3
              refine ⟨?_, hB⟩
              rw [HY.out (a : Int) (b : Int) HV2.out (find_hit (pre := strUp a ++ strRow a b) (by rw [← HAP.out]; exact strPart_pre hlt (by omega)) HBB.out (by rw [HIX.out]; exact HDD.out))]
              first | done | rfl
            · have hdd : decide ((b : Int) - a < d) = false := by simpa using hov
              have HDD := Lib.hid hdd
              go_wp2_with (go_at_call 58; refine HD3.out.mono ?_; rintro e w' ⟨rfl, rfl⟩)
              go_roundg (101 - (b + 1))
              case measure => omega
              case rel => exact ⟨b + 1, (fun y hy => by
                rw [HAP.out] at hy
                exact (List.mem_append.1 hy).elim (HBB.out y) (fun h => by rw [List.mem_singleton] at h; subst h; rw [HIX.out]; exact HDD.out) : ∀ y ∈ strUp a ++ strRow a (b + 1), iso y = false), by go_num, by omega, by omega, by omega, rfl⟩
          · obtain rfl : b = 101 := by omega
            go_wp2
            go_roundg (100 - (a + 1))
            case measure => omega
            case rel => exact ⟨a + 1, HBB, by go_num, by omega, by omega, rfl⟩
      · obtain rfl : a = 100 := by omega
        go_wp2
        go_ret3
        refine ⟨?_, hB⟩
        rw [HM.out HV2.out (find_miss (by rw [← strAll_eq]; exact HA.out))]
        first | done | rfl
end Go.Proofs.Ytdafiblnanpiiaa
