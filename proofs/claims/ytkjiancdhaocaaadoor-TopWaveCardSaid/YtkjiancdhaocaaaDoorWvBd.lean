/- Walks over package wave: Unpack. -/
import Derived.Test.YtkjiancdhaocaaaDoorWvBc
import Derived.Test.YtkjiancdhaocaaaDoorWvEqY
import Derived.Laws.IdiomStrings
import Derived.Laws.BitsAllLaws
namespace Go.Proofs.YtkjiancdhaocaaaDoor
open Go.RowKit Go.Shelf
set_option linter.unusedSimpArgs false
set_option linter.unusedVariables false
attribute [local go_sem] Oper.semAt_some

theorem or_nat {a b : Nat} (ha : a < 256) (hb : b < 256) : bits .or .i64 ((a * 256 : Nat) : Int) (b : Int) = ((a * 256 + b : Nat) : Int) := by
  show IntKind.i64.wrap ((BitVec.ofInt 64 ((a * 256 : Nat) : Int) ||| BitVec.ofInt 64 (b : Int)).toNat : Int) = _
  rw [BitVec.toNat_or, ofInt_u64 _ (by omega), ofInt_u64 b (by omega), nat_join 8 (a * 256) b (by omega) (by omega), IntWalk.i64_in _ (by omega)]
theorem or_lo' {x y : Int} (hx : 0 ≤ x ∧ x ≤ 255) (hy : 0 ≤ y ∧ y ≤ 255) : bits .or .i64 (x * 256) y = x * 256 + y := by
  obtain ⟨a, rfl⟩ := Int.eq_ofNat_of_zero_le hx.1
  obtain ⟨b, rfl⟩ := Int.eq_ofNat_of_zero_le hy.1
  simpa using or_nat (a := a) (b := b) (by omega) (by omega)
theorem and_one' {x : Int} (hx : 0 ≤ x ∧ x ≤ 255) : bits .and .u8 x 1 = x % 2 := by
  rw [u8_and x 1 hx.1 (by omega) (by omega) (by omega)]
  rw [show (1 : Int).toNat = 1 by rfl, Nat.and_one_is_mod]
  omega
/-- byte number k of the text that is made out of bytes -/
def upv (l : List Int) (k : Nat) : Int := 48 + ix l (2 + k / 8) / 2 ^ (7 - k % 8) % 2
theorem upv_toNat (l : List Int) (k : Nat) : ((upB l k).toNat : Int) = upv l k := by
  unfold upB upv
  rcases Int.emod_two_eq (ix l (2 + k / 8) / 2 ^ (7 - k % 8)) with h | h <;> rw [h] <;> rfl
def upS (l : List Int) (n i : Nat) : List Int := (List.range n).map fun k => if k < i then upv l k else 0
theorem upS_len (l : List Int) (n i : Nat) : (upS l n i).length = n := by simp [upS]
theorem upS_zero (l : List Int) (n : Nat) : upS l n 0 = List.replicate n 0 := by
  refine List.ext_getElem (by simp [upS]) fun i h1 h2 => by simp [upS]
theorem upS_set (l : List Int) {n i : Nat} (hi : i < n) : (upS l n i).set i (upv l i) = upS l n (i + 1) := by
  refine List.ext_getElem (by simp [upS]) fun j h1 h2 => ?_
  rw [List.getElem_set]
  simp only [upS, List.getElem_map, List.getElem_range]
  split
  · rename_i h; subst h; rw [if_pos (by omega)]
  · by_cases h : j < i
    · rw [if_pos h, if_pos (by omega)]
    · rw [if_neg h, if_neg (by omega)]
theorem upS_ix (l : List Int) {n k : Nat} (hk : k < n) : ix (upS l n n) k = ((upT l n)[k]'(by rw [upT_len]; exact hk)).toNat := by
  simp [ix, upS, upT, hk, upv_toNat]
/-- how many bits -/
def upN (l : List Int) : Nat := (ix l 0 * 256 + ix l 1).toNat
/-- the text of bytes -/
def upO (l : List Int) : Option Tx := if 2 ≤ l.length ∧ l.length ≤ 127 ∧ upN l ≤ 8 * (l.length - 2) ∧ packL (upT l (upN l)) = l then some (upT l (upN l)) else none
def upE (l : List Int) : Int := if (upO l).isSome = true then 0 else 3
def upR (l : List Int) : Tx := (upO l).getD []
theorem up_none {l : List Int} (h : ¬ (2 ≤ l.length ∧ l.length ≤ 127 ∧ upN l ≤ 8 * (l.length - 2) ∧ packL (upT l (upN l)) = l)) : upE l = 3 ∧ upR l = [] := by
  unfold upE upR upO
  rw [if_neg h]
  exact ⟨rfl, rfl⟩
theorem up_some {l : List Int} (h : 2 ≤ l.length ∧ l.length ≤ 127 ∧ upN l ≤ 8 * (l.length - 2) ∧ packL (upT l (upN l)) = l) : upE l = 0 ∧ upR l = upT l (upN l) := by
  unfold upE upR upO
  rw [if_pos h]
  exact ⟨rfl, rfl⟩
/-- a number and a text come back -/
def TxE (t : Tx) (E : Int) (w : World) (e : Ending) (w' : World) : Prop := e = .returned (.tuple #[.string ⟨t.toArray⟩, .int .i64 E]) ∧ Below w.heap.size w w'
theorem conv_text (l : List Int) {n g c : Nat} {W : World} (hb : BoxY W g (upS l n n)) : (convert 37 9 (.slice (some ⟨g, 0, none⟩) n c)).run Tryd.prog W = .ok (.string ⟨(upT l n).toArray⟩) W := by
  have := run_convert_bytes_back (P := Tryd.prog) W 37 9 5 ⟨g, 0, none⟩ c (upT l n) Tryd.underlying37 Tryd.underlying5 Tryd.underlying9 (fun j hj => by
    have hj' : j < n := by rw [upT_len] at hj; exact hj
    have := hb.cell (k := j) (by rw [upS_len]; exact hj')
    rw [Addr.add_lit, Nat.zero_add, this, upS_ix l hj'])
  rwa [upT_len] at this
set_option maxRecDepth 100000 in
set_option maxHeartbeats 4000000 in
theorem Unpack_any (A : Option Addr) (c : Nat) (l : List Int) (w : World) (hr : RdY w w.heap.size A l) (hl : l.length ≤ 1000000) (hby : ∀ k, k < l.length → 0 ≤ ix l k ∧ ix l k ≤ 255) :
    Calls Tryd.prog 17 #[.slice A l.length c] w (TxE (upR l) (upE l) w) := by
  have HNO : ¬ (2 ≤ l.length ∧ l.length ≤ 127 ∧ upN l ≤ 8 * (l.length - 2) ∧ packL (upT l (upN l)) = l) → Hid (∀ w', Below w.heap.size w w' → TxE (upR l) (upE l) w (.returned (.tuple #[.string ⟨#[]⟩, .int .i64 3])) w') := fun h => Lib.hid fun w' hb => ⟨by rw [(up_none h).1, (up_none h).2], hb⟩
  have HYE : (2 ≤ l.length ∧ l.length ≤ 127 ∧ upN l ≤ 8 * (l.length - 2) ∧ packL (upT l (upN l)) = l) → Hid (∀ w', Below w.heap.size w w' → TxE (upR l) (upE l) w (.returned (.tuple #[.string ⟨(upT l (upN l)).toArray⟩, .int .i64 0])) w') := fun h => Lib.hid fun w' hb => ⟨by rw [(up_some h).1, (up_some h).2], hb⟩
  generalize TxE (upR l) (upE l) w = R at *
  by_cases h2 : 2 ≤ l.length
  · by_cases h127 : l.length ≤ 127
    · have HR := Lib.hid hr
      have HBY := Lib.hid hby
      obtain ⟨b, o, rfl, hb, d0⟩ := hr.at_ (k := 0) (by omega)
      obtain ⟨b', o', he, -, d1⟩ := hr.at_ (k := 1) (by omega)
      cases he
      rw [Nat.add_zero] at d0
      have hx := hby 0 (by omega)
      have hy := hby 1 (by omega)
      have eN : (upN l : Int) = ix l 0 * 256 + ix l 1 := by unfold upN; omega
      have eor := or_lo' hx hy
      rw [← eN] at eor
      by_cases hn : upN l ≤ 8 * (l.length - 2)
      · have HNO2 := Lib.hid HNO
        have HYE2 := Lib.hid HYE
        have HIN := Lib.hid (And.intro h2 (And.intro h127 hn))
        clear HNO HYE hr hby eN
        have HU0 := Lib.hid (upS_zero l (upN l))
        have HUS : Hid (∀ i, i < upN l → (upS l (upN l) i).set i (upv l i) = upS l (upN l) (i + 1)) := Lib.hid fun i hi => upS_set l hi
        have HCV : Hid (∀ W g c, BoxY W g (upS l (upN l) (upN l)) → _) := Lib.hid fun W g c h => conv_text l (n := upN l) (g := g) (c := c) (W := W) h
        have HPK := Lib.hid (fun W (h : upN l ≤ 1000) => pack_any (upT l (upN l)) W (upT_bits _ _) (by rw [upT_len]; exact h))
        rw [upT_len] at HPK
        have HEQ := Lib.hid (fun A c A2 c2 W h1 h2 h3 h4 => EqualY_any A c A2 c2 (packL (upT l (upN l))) l W h1 h2 h3 h4)
        have HPL := Lib.hid (packL_len (upT l (upN l)))
        rw [upT_len] at HPL
        generalize ix l 0 = x at *
        generalize ix l 1 = y at *
        have hn0 : (0 : Int) ≤ (upN l : Int) := Int.natCast_nonneg _
        generalize upT l (upN l) = t at *
        generalize upN l = n at *
        have hm : (n : Int) ≤ 8 * ((l.length : Int) - 2) := by omega
        have h2i : ¬ (l.length : Int) < 2 := by omega
        have h3i : ¬ (127 : Int) < (l.length : Int) := by omega
        have h0m : (0 : Int) < (l.length : Int) := by omega
        have h1m : (1 : Int) < (l.length : Int) := by omega
        have hn1 : n ≤ 1000 := by omega
        obtain ⟨cs, hmk, hbx⟩ := run_make_byte (P := Tryd.prog) Tryd.underlying37 infoByte (n : Int) hn0 (by omega)
        rw [Int.toNat_natCast] at hmk hbx
        have HBX := Lib.hid hbx
        clear hbx
        generalize hml : l.length = m at *
        have HML := Lib.hid hml
        have hdm : decide (8 * ((m : Int) - 2) < (n : Int)) = false := decide_eq_false (by omega)
        have HBYl := Lib.hid (fun i (h : i < n) => (show 2 + i / 8 < m ∧ i / 8 < 126 by omega))
        clear hn hml
        have e1 : IntKind.i64.wrap (x * 256) = x * 256 := IntWalk.i64_in _ (by omega)
        have e2 : wrap64 (x * 256) = x * 256 := IntWalk.wrap64_in _ (by omega)
        go_enter Tryd.func17, Tryd.ntmps17
        go_wp2
        go_quiet (fail)
        go_upto_region 7 with (fail)
        have hb1 : Below w.heap.size w ((w.drewN nq).alloc (.cells cs 5)) := (Below.refl _ _).drewsN nq |>.alloc (Nat.le_refl _) _
        have hbx1 : BoxY ((w.drewN nq).alloc (.cells cs 5)) w.heap.size (List.replicate n 0) := HBX.out (w.drewN nq)
        have H1 := Lib.hid (And.intro hbx1 hb1)
        clear hbx1 hb1 hmk HBX d0 d1 eor e1 e2 hx hy
        generalize (w.drewN nq).alloc (.cells cs 5) = w1 at *
        generalize hg : w.heap.size = g at *
        have HG := Lib.hid hg
        clear hg
        go_wp2
        go_loopg [35] n (fun gk u wr => ∃ i : Nat, u = .int .i64 i ∧ i ≤ n ∧ n - i ≤ gk ∧ BoxY wr g (upS l n i) ∧ Below g w wr)
        case atStart => exact ⟨0, rfl, by omega, by omega, by rw [HU0.out]; exact H1.out.1, H1.out.2⟩
        case round =>
          obtain ⟨i, rfl, hi, hgk, hX, hB⟩ := hrel
          by_cases hlt : i < n
          · have hin : (i : Int) < (n : Int) := by omega
            have hi0 : (0 : Int) ≤ (i : Int) := by omega
            have hJ : (i : Int) / 8 = ((i / 8 : Nat) : Int) := by omega
            have hJt : (i : Int).tdiv 8 = ((i / 8 : Nat) : Int) := by rw [Int.tdiv_eq_ediv_of_nonneg hi0]; exact hJ
            have hR : (i : Int) % 8 = ((i % 8 : Nat) : Int) := by omega
            have hRl : i % 8 < 8 := by omega
            have hRt : (i : Int).tmod 8 = ((i % 8 : Nat) : Int) := by rw [Int.tmod_eq_emod_of_nonneg hi0]; exact hR
            obtain ⟨hJm, hJs⟩ := HBYl.out i hlt
            obtain ⟨b', o', he, hbb, dj⟩ := HR.out.at_ (k := 2 + i / 8) (by rw [HML.out]; exact hJm)
            cases he
            have hxb := HBY.out _ hJm
            rw [← hB.cell (p := ⟨b, o + (2 + i / 8), none⟩) hbb] at dj
            have hc := hX.cell (k := i) (by rw [upS_len]; exact hlt)
            have hf := hX.frozen i
            have HS1 := Lib.hid (HUS.out i hlt)
            have HX := Lib.hid (And.intro hX hB)
            have hup : upv l i = 48 + ix l (2 + i / 8) / 2 ^ (7 - i % 8) % 2 := rfl
            generalize hv : upv l i = v at *
            clear hX hB hv
            generalize ix l (2 + i / 8) = x at *
            generalize ix (upS l n i) i = z at *
            generalize i / 8 = J at *
            generalize i % 8 = R at *
            have hpM : ((2 + J : Nat) : Int) < (m : Int) := by omega
            have hp0 : (0 : Int) ≤ ((2 + J : Nat) : Int) := by omega
            go_wp2
            have hq0 : 0 ≤ x / 2 ^ (7 - R) := Int.ediv_nonneg hxb.1 (Int.le_of_lt (Int.pow_pos (by decide)))
            have hq1 : x / 2 ^ (7 - R) ≤ x := Int.ediv_le_self _ hxb.1
            have hval : (48 + bits .and .u8 (x / 2 ^ (7 - R)) 1) % 256 = v := by
              rw [and_one' ⟨hq0, by omega⟩, hup]
              omega
            rw [hval]
            go_roundg (n - (i + 1))
            case measure => omega
            case rel => exact ⟨i + 1, by go_num, by omega, by omega, by
              have := HX.out.1.set_ i v
              rw [HS1.out] at this
              exact this, HX.out.2.setCell (p := ⟨g, i, none⟩) (Nat.le_refl _) _⟩
          · obtain rfl : i = n := by omega
            have hcv := HCV.out wr g i hX
            have HGR : Hid (g ≤ wr.heap.size) := Lib.hid (by rw [← HG.out]; exact hB.size)
            have HX := Lib.hid (And.intro hX hB)
            have hlp : (packL t).length ≤ 1000000 := by rw [HPL.out]; unfold nB; omega
            rw [HPL.out] at HEQ hlp
            have HLP := Lib.hid hlp
            clear hX hB hlp
            by_cases hP : packL t = l
            · have HK := HYE2.out ⟨HIN.out.1, HIN.out.2.1, HIN.out.2.2, hP⟩
              rw [decide_eq_true hP] at HEQ
              clear hP HNO2 HYE2
              generalize packL t = pl at *
              generalize 2 + nB i = pn at *
              go_wp2_with (first
                | (go_at_call 38; refine (HPK.out _ hn1).mono ?_; rintro e w3 ⟨rfl, hb3, h3⟩; have HB3 := Lib.hid (And.intro hb3 h3); have HR3 := Lib.hid (HR.out.le (HX.out.2.trans (h3.mono HGR.out)) (Nat.le_trans HGR.out h3.size)); clear hb3 hcv)
                | (go_at_call 39; refine (HEQ.out _ _ _ _ _ HB3.out.1.rd HR3.out HLP.out hl).mono ?_; rintro e w4 ⟨rfl, h4⟩; have hcv := HCV.out w4 g i ((HX.out.1.on HB3.out.2).on h4)))
              refine HK.out _ ?_
              exact HX.out.2.trans ((h3.trs h4).mono HGR.out)
            · have HK := HNO2.out (fun h => hP h.2.2.2)
              rw [decide_eq_false hP] at HEQ
              clear hP HNO2 HYE2
              generalize packL t = pl at *
              generalize 2 + nB i = pn at *
              go_wp2_with (first
                | (go_at_call 38; refine (HPK.out _ hn1).mono ?_; rintro e w3 ⟨rfl, hb3, h3⟩; have HB3 := Lib.hid (And.intro hb3 h3); have HR3 := Lib.hid (HR.out.le (HX.out.2.trans (h3.mono HGR.out)) (Nat.le_trans HGR.out h3.size)); clear hb3 hcv)
                | (go_at_call 39; refine (HEQ.out _ _ _ _ _ HB3.out.1.rd HR3.out HLP.out hl).mono ?_; rintro e w4 ⟨rfl, h4⟩; have hcv := HCV.out w4 g i ((HX.out.1.on HB3.out.2).on h4)))
              refine HK.out _ ?_
              exact HX.out.2.trans ((h3.trs h4).mono HGR.out)
      · have HK := HNO (fun h => hn h.2.2.1)
        clear HNO HYE hr hby eN
        generalize ix l 0 = x at *
        generalize ix l 1 = y at *
        generalize upN l = n at *
        have hm : ¬ (n : Int) ≤ 8 * ((l.length : Int) - 2) := by omega
        have h2i : ¬ (l.length : Int) < 2 := by omega
        have h3i : ¬ (127 : Int) < (l.length : Int) := by omega
        have h0m : (0 : Int) < (l.length : Int) := by omega
        have h1m : (1 : Int) < (l.length : Int) := by omega
        generalize l.length = m at *
        clear hn
        have e1 : IntKind.i64.wrap (x * 256) = x * 256 := IntWalk.i64_in _ (by omega)
        have e2 : wrap64 (x * 256) = x * 256 := IntWalk.wrap64_in _ (by omega)
        go_enter Tryd.func17, Tryd.ntmps17
        go_wp2
        go_quiet (fail)
        go_wp2
        exact HK.out _ ((Below.refl _ _).drewsN _)
    · have HK := HNO (fun h => h127 h.2.1)
      clear HNO HYE hr hby
      have h2i : ¬ (l.length : Int) < 2 := by omega
      have h3i : (127 : Int) < (l.length : Int) := by omega
      generalize l.length = m at *
      go_enter Tryd.func17, Tryd.ntmps17
      go_wp2
      exact HK.out _ (Below.refl _ _)
  · have HK := HNO (fun h => h2 h.1)
    clear HNO HYE hr hby
    have h2i : (l.length : Int) < 2 := by omega
    generalize l.length = m at *
    go_enter Tryd.func17, Tryd.ntmps17
    go_wp2
    exact HK.out _ (Below.refl _ _)
end Go.Proofs.YtkjiancdhaocaaaDoor
