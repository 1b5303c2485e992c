/- Walks over package wave and its reference: texts of bits, words and numbers. -/
import Derived.Test.YtkjiancdhaocaaaDoorWvN
import Derived.Test.YtkjiancdhaocaaaDoorWvTrim
import Derived.Test.YtkjiancdhaocaaaDoorWvU
namespace Go.Proofs.YtkjiancdhaocaaaDoor
open Go.RowKit Go.Shelf
set_option linter.unusedSimpArgs false
set_option linter.unusedVariables false
attribute [local go_sem] Oper.semAt_some

/-! ### texts of bits -/
def vbB (t : Tx) : Bool := decide (t.length ≤ 1000) && bitsB t
theorem dW_nil {p : UInt8 → Bool} : ∀ l : List UInt8, l.dropWhile p = [] ↔ ∀ x ∈ l, p x = true
  | [] => by simp
  | a :: l => by
    rw [List.dropWhile_cons]
    by_cases h : p a = true
    · rw [if_pos h, dW_nil l]
      simp [h]
    · rw [if_neg h]
      simp [h]
theorem trim_nil {t : Tx} : Lib.trimS t [48, 49] = [] ↔ bitsB t = true := by
  have hc : ∀ c : UInt8, ([48, 49] : List UInt8).contains c = bitB c := fun c => by simp [bitB]; rfl
  unfold Lib.trimS Lib.trimLeftS Lib.trimRightS bitsB
  rw [dW_nil]
  constructor
  · intro h
    rw [List.all_eq_true]
    intro c hc1
    rw [← hc]
    by_cases hn : ([48, 49] : List UInt8).contains c = true
    · exact hn
    · exfalso
      -- some sign that is no bit: the text trimmed on the right holds it
      have key : ∀ l : List UInt8, c ∈ l → c ∈ l.dropWhile (fun x => ([48, 49] : List UInt8).contains x) := fun l => by
        induction l with
        | nil => simp
        | cons a l ih =>
          intro hm
          rw [List.dropWhile_cons]
          split
          · rename_i ha
            rcases List.mem_cons.1 hm with e | e
            · subst e; exact absurd ha hn
            · exact ih e
          · exact hm
      have h1 := key _ (List.mem_reverse.2 hc1)
      exact hn (h c (List.mem_reverse.2 h1))
  · intro h x hx
    rw [hc]
    have h1 : x ∈ t := by
      have := (List.dropWhile_sublist _).subset (List.mem_reverse.1 hx)
      exact List.mem_reverse.1 this
    exact List.all_eq_true.1 h x h1
theorem Trim_any (t : Tx) (w : World) (h : t.length ≤ 1000) : Calls Tryd.prog 54 #[.string ⟨t.toArray⟩, .string ⟨#[48, 49]⟩] w fun e w' => e = .returned (.string ⟨(Lib.trimS t [48, 49]).toArray⟩) ∧ Below w.heap.size w w' := by
  have := Any.strings_Trim_laid Tryd.lays160 (by kernel_rfl) ⟨t.toArray⟩ ⟨#[48, 49]⟩ w (by simp [ByteArray.size]; omega) (by decide) (ascii_of_all (by decide))
  exact this
set_option maxHeartbeats 1000000 in
theorem ValidBits_any (t : Tx) (w : World) (h : t.length ≤ 1000000) : Calls Tryd.prog 35 #[.string ⟨t.toArray⟩] w fun e w' => e = .returned (.bool (vbB t)) ∧ Below w.heap.size w w' := by
  unfold vbB
  by_cases hl : t.length ≤ 1000
  · have hlI : (t.length : Int) ≤ 1000 := by omega
    have HT := Lib.hid (fun W => Trim_any t W hl)
    have HN : Hid ((Lib.trimS t [48, 49] == []) = bitsB t) := Lib.hid (by rw [Bool.eq_iff_iff, beq_iff_eq]; exact trim_nil)
    rw [decide_eq_true hl]
    generalize Lib.trimS t [48, 49] = r at *
    generalize bitsB t = bb at *
    have hrt : (⟨r.toArray⟩ : ByteArray).toList = r := ByteArray.toList_mk r
    go_enter Tryd.func35, Tryd.ntmps35
    go_wp2_with (go_at_call 54; refine (HT.out _).mono ?_; rintro e w1 ⟨rfl, h1⟩)
    go_ret
    exact ⟨ret_bool (by rw [← HN.out]; simp), h1⟩
  · have hlI : ¬ (t.length : Int) ≤ 1000 := by omega
    rw [decide_eq_false hl]
    generalize bitsB t = bb at *
    go_enter Tryd.func35, Tryd.ntmps35
    go_wp2
    go_ret
    exact ⟨ret_bool (by simp), Below.refl _ _⟩
/-- byte number i, as a number -/
def bt (t : Tx) (i : Nat) : Int := ((t[i]?.getD 0).toNat : Int)
theorem bt_bd (t : Tx) (i : Nat) : 0 ≤ bt t i ∧ bt t i ≤ 255 := by
  unfold bt
  have := (t[i]?.getD 0).toNat_lt
  omega
theorem get_bt (t : Tx) : ∀ (n : Nat) (h : n < (⟨t.toArray⟩ : ByteArray).size), (((⟨t.toArray⟩ : ByteArray)[n]'h).toNat : Int) = bt t n := fun n h => by
  have h' : n < t.length := by simpa [ByteArray.size] using h
  unfold bt
  rw [List.getElem?_eq_getElem h', Option.getD_some]
  rfl
theorem size_bt (t : Tx) : (⟨t.toArray⟩ : ByteArray).size = t.length := by simp [ByteArray.size]
theorem bit_bt {t : Tx} {i : Nat} (hi : i < t.length) : bitB t[i] = (decide (bt t i = 48) || decide (bt t i = 49)) := by
  unfold bitB bt
  rw [List.getElem?_eq_getElem hi, Option.getD_some, Bool.eq_iff_iff]
  simp only [Bool.or_eq_true, beq_iff_eq, decide_eq_true_eq, ← UInt8.toNat_inj]
  simp
  omega
theorem bitV_bt {t : Tx} {i : Nat} (hi : i < t.length) : bitV t[i] = if bt t i = 49 then 1 else 0 := by
  unfold bitV bt
  rw [List.getElem?_eq_getElem hi, Option.getD_some]
  by_cases h : t[i] = 49
  · rw [h]; rfl
  · rw [if_neg h, if_neg (fun e => h (UInt8.toNat_inj.1 (show t[i].toNat = 49 by omega)))]
set_option maxHeartbeats 1000000 in
theorem refAreBits_any (t : Tx) (w : World) (h : t.length ≤ 1000000) : Calls Tryd.prog 72 #[.string ⟨t.toArray⟩] w fun e w' => e = .returned (.bool (bitsB t)) ∧ w' = w := by
  have hget := get_bt t
  have hsz := size_bt t
  have HBB := Lib.hid (fun i (hi : i < t.length) => bit_bt hi)
  have HLT := Lib.hid (bt_bd t)
  have HY : (∀ i, i < t.length → (decide (bt t i = 48) || decide (bt t i = 49)) = true) → bitsB t = true := fun h => by
    refine List.all_eq_true.2 fun c hc => ?_
    obtain ⟨i, hi, rfl⟩ := List.mem_iff_getElem.1 hc
    rw [HBB.out i hi]
    exact h i hi
  have HN : ∀ i, i < t.length → (decide (bt t i = 48) || decide (bt t i = 49)) = false → bitsB t = false := fun i hi h => by
    refine List.all_eq_false.2 ⟨t[i], List.getElem_mem hi, ?_⟩
    rw [HBB.out i hi, h]
    decide
  have HYN := Lib.hid (And.intro HY HN)
  clear HY HN HBB
  generalize bitsB t = bb at *
  generalize bt t = f at *
  generalize t.length = n at *
  generalize (⟨t.toArray⟩ : ByteArray) = s at *
  go_enter Tryd.func72, Tryd.ntmps72
  go_wp2
  go_loopg [6] n (fun gk u wr => ∃ i : Nat, u = .int .i64 i ∧ i ≤ n ∧ n - i ≤ gk ∧ Aside (∀ j, j < i → (decide (f j = 48) || decide (f j = 49)) = true) ∧ wr = w)
  case atStart => exact ⟨0, rfl, by omega, by omega, (fun j hj => absurd hj (Nat.not_lt_zero j) : ∀ j, j < 0 → (decide (f j = 48) || decide (f j = 49)) = true), rfl⟩
  case round =>
    obtain ⟨i, rfl, hi, hgk, hall, rfl⟩ := hrel
    by_cases hlt : i < n
    · have hf := HLT.out i
      have hin : (i : Int) < (n : Int) := by omega
      have hi0 : (0 : Int) ≤ (i : Int) := by omega
      have HYNi := Lib.hid (HYN.out.2 i hlt)
      have hgi := fun h => hget i h
      clear hget
      generalize hx : f i = x at *
      have HX := Lib.hid hx
      clear hx
      by_cases h8 : x = 48
      · subst h8
        go_wp2
        go_roundg (n - (i + 1))
        case measure => omega
        case rel => exact ⟨i + 1, by go_num, by omega, by omega, fun j hj => by
          by_cases e : j = i
          · subst e; rw [HX.out]; rfl
          · exact hall j (by omega), rfl⟩
      · by_cases h9 : x = 49
        · subst h9
          go_wp2
          go_roundg (n - (i + 1))
          case measure => omega
          case rel => exact ⟨i + 1, by go_num, by omega, by omega, fun j hj => by
            by_cases e : j = i
            · subst e; rw [HX.out]; rfl
            · exact hall j (by omega), rfl⟩
        · have hb := HYNi.out (by simp [h8, h9])
          have k8 : (x == 48) = false := beq_eq_false_iff_ne.2 h8
          have k9 : (x == 49) = false := beq_eq_false_iff_ne.2 h9
          have n8 : (x != 48) = true := by simp [bne, k8]
          have n9 : (x != 49) = true := by simp [bne, k9]
          have HB := Lib.hid hb
          clear hb
          go_wp2
          go_ret
          exact ⟨by rw [HB.out]; rfl, rfl⟩
    · obtain rfl : i = n := by omega
      have HB := Lib.hid (HYN.out.1 hall)
      clear hget
      go_wp2
      go_ret
      exact ⟨by rw [HB.out]; rfl, rfl⟩
set_option maxHeartbeats 1000000 in
theorem refValidBits_any (t : Tx) (w : World) (h : t.length ≤ 1000000) : Calls Tryd.prog 61 #[.string ⟨t.toArray⟩] w fun e w' => e = .returned (.bool (vbB t)) ∧ w' = w := by
  have HA := Lib.hid (fun W => refAreBits_any t W h)
  unfold vbB
  generalize bitsB t = bb at *
  by_cases hl : t.length ≤ 1000
  · have hlI : (t.length : Int) ≤ 1000 := by omega
    rw [decide_eq_true hl]
    go_enter Tryd.func61, Tryd.ntmps61
    go_wp2_with (go_at_call 72; refine (HA.out _).mono ?_; rintro e w1 ⟨rfl, rfl⟩)
    go_ret
    exact ⟨ret_bool (by simp), rfl⟩
  · have hlI : ¬ (t.length : Int) ≤ 1000 := by omega
    rw [decide_eq_false hl]
    go_enter Tryd.func61, Tryd.ntmps61
    go_wp2
    go_ret
    exact ⟨ret_bool (by simp), rfl⟩
/-! ### the number of a word -/
theorem raw_take {t : Tx} {i : Nat} (hi : i < t.length) : rawN (t.take (i + 1)) = 2 * rawN (t.take i) + if bt t i = 49 then 1 else 0 := by
  rw [List.take_succ_eq_append_getElem hi, rawN_snoc, bitV_bt hi]
theorem pow_small {i : Nat} (h : i ≤ 11) : (2 : Int) ^ i ≤ 2048 := by
  have : i = 0 ∨ i = 1 ∨ i = 2 ∨ i = 3 ∨ i = 4 ∨ i = 5 ∨ i = 6 ∨ i = 7 ∨ i = 8 ∨ i = 9 ∨ i = 10 ∨ i = 11 := by omega
  rcases this with rfl | rfl | rfl | rfl | rfl | rfl | rfl | rfl | rfl | rfl | rfl | rfl <;> decide
theorem raw_small {t : Tx} (h : t.length ≤ 11) (i : Nat) : 0 ≤ rawN (t.take i) ∧ rawN (t.take i) ≤ 2047 := by
  have h1 := rawN_bd (t.take i)
  have h2 := pow_small (i := (t.take i).length) (by rw [List.length_take]; omega)
  omega
theorem bt_bits {t : Tx} (hb : bitsB t = true) {i : Nat} (hi : i < t.length) : bt t i = 48 ∨ bt t i = 49 := by
  have h := List.all_eq_true.1 hb t[i] (List.getElem_mem hi)
  rw [bit_bt hi] at h
  simpa using h
set_option maxHeartbeats 2000000 in
theorem number_any (t : Tx) (w : World) (hb : bitsB t = true) (hl : okW t.length) : Calls Tryd.prog 55 #[.string ⟨t.toArray⟩] w fun e w' => e = .returned (.int .i64 (numB t)) ∧ w' = w := by
  have hget := get_bt t
  have hsz := size_bt t
  have HBT := Lib.hid (fun i (hi : i < t.length) => bt_bits hb hi)
  have HRT := Lib.hid (fun i (hi : i < t.length) => raw_take hi)
  have hl11 := (okW_le hl).2
  have HRS := Lib.hid (raw_small hl11)
  have HHF := Lib.hid (fun W => half_any t.length W hl)
  have hhf := hf_le hl
  have HNB : Hid (numB t = if hf t.length ≤ rawN (t.take t.length) then rawN (t.take t.length) - 2 * hf t.length else rawN (t.take t.length)) := Lib.hid (by rw [List.take_of_length_le (Nat.le_refl _)]; rfl)
  have HR0 : Hid (rawN (t.take 0) = 0) := Lib.hid rfl
  clear hb hl
  generalize numB t = N at *
  generalize hr : (fun i => rawN (t.take i)) = r at *
  replace HRT : Hid (∀ i, i < t.length → r (i + 1) = 2 * r i + if bt t i = 49 then 1 else 0) := Lib.hid (by rw [← hr]; exact HRT.out)
  replace HRS : Hid (∀ i, 0 ≤ r i ∧ r i ≤ 2047) := Lib.hid (by rw [← hr]; exact HRS.out)
  replace HNB : Hid (N = if hf t.length ≤ r t.length then r t.length - 2 * hf t.length else r t.length) := Lib.hid (by rw [← hr]; exact HNB.out)
  replace HR0 : Hid (r 0 = 0) := Lib.hid (by rw [← hr]; exact HR0.out)
  clear hr
  generalize bt t = f at *
  generalize t.length = n at *
  generalize (⟨t.toArray⟩ : ByteArray) = s at *
  generalize hf n = hh at *
  go_enter Tryd.func55, Tryd.ntmps55
  go_wp2
  go_loopg [3, 7] n (fun gk v u wr => ∃ i : Nat, u = .int .i64 i ∧ v = .int .i64 (r i) ∧ i ≤ n ∧ n - i ≤ gk ∧ wr = w)
  case atStart => exact ⟨0, rfl, by rw [HR0.out], by omega, by omega, rfl⟩
  case round =>
    obtain ⟨i, rfl, rfl, hi, hgk, rfl⟩ := hrel
    by_cases hlt : i < n
    · have hin : (i : Int) < (n : Int) := by omega
      have hi0 : (0 : Int) ≤ (i : Int) := by omega
      have hgi := fun h => hget i h
      clear hget
      have hrs := HRS.out i
      have HRi := Lib.hid (HRT.out i hlt)
      rcases HBT.out i hlt with hx | hx
      all_goals
        rw [hx] at hgi HRi
        generalize r i = y at *
        have e1 : IntKind.i64.wrap (2 * y) = 2 * y := IntWalk.i64_in _ (by omega)
        have e2 : wrap64 (2 * y) = 2 * y := IntWalk.wrap64_in _ (by omega)
        have e3 : IntKind.i64.wrap (2 * y + 1) = 2 * y + 1 := IntWalk.i64_in _ (by omega)
        have e4 : wrap64 (2 * y + 1) = 2 * y + 1 := IntWalk.wrap64_in _ (by omega)
        clear hx
        go_wp2
        go_roundg (n - (i + 1))
        case measure => omega
        case rel => exact ⟨i + 1, by go_num, by rw [HRi.out]; simp, by omega, by omega, rfl⟩
    · obtain rfl : i = n := by omega
      have hrs := HRS.out i
      clear hget
      generalize r i = y at *
      by_cases hge : hh ≤ y
      · rw [if_pos hge] at HNB
        have hge2 : ¬ y < hh := by omega
        have e1 : IntKind.i64.wrap (2 * hh) = 2 * hh := IntWalk.i64_in _ (by omega)
        have e2 : wrap64 (2 * hh) = 2 * hh := IntWalk.wrap64_in _ (by omega)
        have e3 : IntKind.i64.wrap (y - 2 * hh) = y - 2 * hh := IntWalk.i64_in _ (by omega)
        have e4 : wrap64 (y - 2 * hh) = y - 2 * hh := IntWalk.wrap64_in _ (by omega)
        go_wp2_with (go_at_call 51; refine (HHF.out _).mono ?_; rintro e w1 ⟨rfl, rfl⟩)
        go_ret
        exact ⟨by rw [HNB.out]; rfl, rfl⟩
      · rw [if_neg hge] at HNB
        have hge2 : y < hh := by omega
        go_wp2_with (go_at_call 51; refine (HHF.out _).mono ?_; rintro e w1 ⟨rfl, rfl⟩)
        go_ret
        exact ⟨by rw [HNB.out]; rfl, rfl⟩
/-- the number of a word, bit by bit from the front -/
def sR (t : Tx) (i : Nat) : Int := rawN (t.take i) * 2 ^ (t.length - i) - if 0 < i ∧ bt t 0 = 49 then 2 ^ t.length else 0
theorem sR_succ {t : Tx} {i : Nat} (hi : i < t.length) : sR t (i + 1) = sR t i + if bt t i = 49 then (if i = 0 then -(hf (t.length - i)) else hf (t.length - i)) else 0 := by
  unfold sR hf
  rw [raw_take hi]
  by_cases h0 : i = 0
  · subst h0
    have e : (2 : Int) ^ t.length = 2 ^ (t.length - 1) * 2 := by rw [← Int.pow_succ]; congr 1; omega
    rw [e, Nat.sub_zero, show rawN (t.take 0) = 0 from rfl, Nat.zero_add]
    by_cases hb : bt t 0 = 49
    · simp [hb]; omega
    · simp [hb]
  · have e : (2 : Int) ^ (t.length - i) = 2 ^ (t.length - (i + 1)) * 2 := by rw [← Int.pow_succ]; congr 1; omega
    rw [e, show t.length - i - 1 = t.length - (i + 1) by omega, if_neg h0]
    generalize rawN (t.take i) = r
    generalize (2 : Int) ^ (t.length - (i + 1)) = P
    have hc : (if 0 < i + 1 ∧ bt t 0 = 49 then (2 : Int) ^ t.length else 0) = if 0 < i ∧ bt t 0 = 49 then (2 : Int) ^ t.length else 0 := by
      by_cases hb : bt t 0 = 49 <;> simp [hb, Nat.pos_of_ne_zero h0]
    rw [hc]
    generalize (if 0 < i ∧ bt t 0 = 49 then (2 : Int) ^ t.length else 0) = C
    have e1 : r * (P * 2) = 2 * (r * P) := by rw [← Int.mul_assoc]; omega
    by_cases hb : bt t i = 49
    · simp only [hb, if_true]
      rw [e1, Int.add_mul, Int.mul_assoc]
      omega
    · simp only [hb, if_false]
      rw [e1, Int.add_zero, Int.mul_assoc]
      omega
theorem sR_all {t : Tx} (hl : okW t.length) : sR t t.length = numB t := by
  have h1 : 0 < t.length := by unfold okW at hl; omega
  have hr := rawN_bd t
  have hb := raw_bit t 0 h1
  rw [bitV_bt h1] at hb
  unfold sR numB
  rw [List.take_of_length_le (Nat.le_refl _), Nat.sub_self, Int.pow_zero, Int.mul_one]
  generalize rawN t = r at *
  by_cases h49 : bt t 0 = 49
  · rw [if_pos h49] at hb
    rw [if_pos ⟨h1, h49⟩]
    rcases hl with e | e | e | e | e <;> rw [e] at hr hb ⊢ <;> simp [hf] at hr hb ⊢ <;> omega
  · rw [if_neg h49] at hb
    rw [if_neg (fun h => h49 h.2)]
    rcases hl with e | e | e | e | e <;> rw [e] at hr hb ⊢ <;> simp [hf] at hr hb ⊢ <;> omega
set_option maxRecDepth 100000 in
set_option maxHeartbeats 2000000 in
theorem refNumber_any (t : Tx) (w : World) (hb : bitsB t = true) (hl : okW t.length) : Calls Tryd.prog 74 #[.string ⟨t.toArray⟩] w fun e w' => e = .returned (.int .i64 (numB t)) ∧ w' = w := by
  have hget := get_bt t
  have hsz := size_bt t
  have HBT := Lib.hid (fun i (hi : i < t.length) => bt_bits hb hi)
  have HST := Lib.hid (fun i (hi : i < t.length) => sR_succ hi)
  have hl11 := (okW_le hl).2
  have HHF := Lib.hid (fun m W (h : 1 ≤ m ∧ m ≤ 11) => refHalf_any m W h)
  have HSB : Hid (∀ i, -100000 ≤ sR t i ∧ sR t i ≤ 5000000) := Lib.hid (fun i => by
    have h1 := raw_small hl11 i
    have h2 := pow_small (i := t.length - i) (by omega)
    have h3 := pow_small (i := t.length) hl11
    have h4 : (0 : Int) < 2 ^ (t.length - i) := Int.pow_pos (by decide)
    have h5 : (0 : Int) < 2 ^ t.length := Int.pow_pos (by decide)
    have h6 : 0 ≤ rawN (t.take i) * 2 ^ (t.length - i) := Int.mul_nonneg h1.1 (Int.le_of_lt h4)
    have h7 : rawN (t.take i) * 2 ^ (t.length - i) ≤ 2047 * 2048 := Int.mul_le_mul h1.2 h2 (Int.le_of_lt h4) (by decide)
    unfold sR
    split <;> omega)
  have HSA := Lib.hid (sR_all hl)
  have HS0 : Hid (sR t 0 = 0) := Lib.hid (by simp [sR, rawN])
  clear hb hl
  generalize numB t = N at *
  generalize sR t = r at *
  generalize bt t = f at *
  generalize t.length = n at *
  generalize (⟨t.toArray⟩ : ByteArray) = s at *
  go_enter Tryd.func74, Tryd.ntmps74
  go_wp2
  go_loopg [3, 8] n (fun gk v u wr => ∃ i : Nat, u = .int .i64 i ∧ v = .int .i64 (r i) ∧ i ≤ n ∧ n - i ≤ gk ∧ wr = w)
  case atStart => exact ⟨0, rfl, by rw [HS0.out], by omega, by omega, rfl⟩
  case round =>
    obtain ⟨i, rfl, rfl, hi, hgk, rfl⟩ := hrel
    by_cases hlt : i < n
    · have hin : (i : Int) < (n : Int) := by omega
      have hi0 : (0 : Int) ≤ (i : Int) := by omega
      have hgi := fun h => hget i h
      clear hget
      have hrs := HSB.out i
      have HRi := Lib.hid (HST.out i hlt)
      rcases HBT.out i hlt with hx | hx
      · rw [hx] at hgi HRi
        generalize r i = y at *
        clear hx
        go_wp2
        go_roundg (n - (i + 1))
        case measure => omega
        case rel => exact ⟨i + 1, by go_num, by rw [HRi.out]; simp, by omega, by omega, rfl⟩
      · rw [hx, if_pos rfl] at HRi
        rw [hx] at hgi
        clear hx
        obtain ⟨m, hm⟩ : ∃ m, m = n - i := ⟨_, rfl⟩
        have e1 : IntKind.i64.wrap ((n : Int) - (i : Int)) = (m : Int) := by rw [IntWalk.i64_in _ (by omega)]; omega
        have e2 : wrap64 ((n : Int) - (i : Int)) = (m : Int) := by rw [IntWalk.wrap64_in _ (by omega)]; omega
        have HHm := Lib.hid (fun W => HHF.out m W (by omega))
        have hhm := hf_small (n := m) (by omega)
        rw [← hm] at HRi
        generalize hf m = h at *
        generalize r i = y at *
        have e3 : IntKind.i64.wrap (-h) = -h := IntWalk.i64_in _ (by omega)
        have e4 : wrap64 (-h) = -h := IntWalk.wrap64_in _ (by omega)
        have e5 : IntKind.i64.wrap (y + h) = y + h := IntWalk.i64_in _ (by omega)
        have e6 : wrap64 (y + h) = y + h := IntWalk.wrap64_in _ (by omega)
        have e7 : IntKind.i64.wrap (y + -h) = y + -h := IntWalk.i64_in _ (by omega)
        have e8 : wrap64 (y + -h) = y + -h := IntWalk.wrap64_in _ (by omega)
        by_cases h0 : i = 0
        · rw [if_pos h0] at HRi
          obtain rfl : m = n := by omega
          subst h0
          clear hm e1 e2
          go_wp2_with (go_at_call 75; refine (HHm.out _).mono ?_; rintro e w1 ⟨rfl, rfl⟩)
          go_roundg (m - (0 + 1))
          case measure => omega
          case rel => exact ⟨0 + 1, by go_num, by rw [HRi.out], by omega, by omega, rfl⟩
        · rw [if_neg h0] at HRi
          have HM := Lib.hid hm
          clear hm
          have h00 : ((i : Int) == 0) = false := by rw [beq_eq_false_iff_ne]; omega
          have h01 : ¬ (i : Int) = 0 := by omega
          go_wp2_with (go_at_call 75; refine (HHm.out _).mono ?_; rintro e w1 ⟨rfl, rfl⟩)
          go_roundg (n - (i + 1))
          case measure => omega
          case rel => exact ⟨i + 1, by go_num, by rw [HRi.out], by omega, by omega, rfl⟩
    · obtain rfl : i = n := by omega
      clear hget
      go_wp2
      go_ret
      exact ⟨by rw [← HSA.out]; rfl, rfl⟩
/-! ### Word and Number -/
def wrdE (v n : Int) : Int := if okB v && btw (-(hf v.toNat)) n (hf v.toNat - 1) then 0 else 2
def wrdX (v n : Int) : Tx := if wrdE v n = 0 then wordB v.toNat n else []
def numE (t : Tx) : Int := if okB t.length && bitsB t then 0 else 3
def numX (t : Tx) : Int := if numE t = 0 then numB t else 0
end Go.Proofs.YtkjiancdhaocaaaDoor
