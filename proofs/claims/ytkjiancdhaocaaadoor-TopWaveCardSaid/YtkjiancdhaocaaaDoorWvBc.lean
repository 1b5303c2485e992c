/- Walks over the reference of chapter wave: pack; Pack of both. -/
import Derived.Test.YtkjiancdhaocaaaDoorWvBb
import Derived.Test.YtkjiancdhaocaaaDoorWvQd
namespace Go.Proofs.YtkjiancdhaocaaaDoor
open Go.RowKit Go.Shelf
set_option linter.unusedSimpArgs false
set_option linter.unusedVariables false
attribute [local go_sem] Oper.semAt_some

/-- the reference's bytes: k of them, behind the first i bits -/
def rpS (t : Tx) (i k : Nat) : List Int := ((t.length / 256 : Nat) : Int) :: ((t.length % 256 : Nat) : Int) :: (List.range k).map (pv t i)
theorem rpS_len (t : Tx) (i k : Nat) : (rpS t i k).length = 2 + k := by simp [rpS]; omega
theorem rpS_ix (t : Tx) (i : Nat) {j k : Nat} (hj : j < k) : ix (rpS t i k) (2 + j) = pv t i j := by
  unfold ix rpS
  rw [show 2 + j = j + 1 + 1 by omega]
  simp [hj]
theorem rpS_done (t : Tx) : rpS t t.length (nB t.length) = packL t := rfl
theorem rpS_app (t : Tx) {i : Nat} (h : i % 8 = 0) : rpS t i (nB i) ++ [0] = rpS t i (i / 8 + 1) := by
  have e : nB i = i / 8 := by unfold nB; omega
  rw [e]
  unfold rpS
  rw [List.range_succ, List.map_append, List.map_cons, List.map_nil, pv_fut t (i := i) (j := i / 8) (by omega)]
  rfl
theorem rpS_same (t : Tx) {i : Nat} (h : ¬ i % 8 = 0) : rpS t i (nB i) = rpS t i (i / 8 + 1) := by
  have e : nB i = i / 8 + 1 := by unfold nB; omega
  rw [e]
theorem nB_succ (i : Nat) : nB (i + 1) = i / 8 + 1 := by unfold nB; omega
theorem rpS_set (t : Tx) (i : Nat) : (rpS t i (i / 8 + 1)).set (2 + i / 8) (pv t i (i / 8) + bI t i * 2 ^ (7 - i % 8)) = rpS t (i + 1) (nB (i + 1)) := by
  rw [nB_succ]
  unfold rpS
  rw [show 2 + i / 8 = i / 8 + 1 + 1 by omega, List.set_cons_succ, List.set_cons_succ]
  congr 1
  congr 1
  refine List.ext_getElem (by simp) fun j h1 h2 => ?_
  rw [List.getElem_set]
  simp only [List.getElem_map, List.getElem_range, pv]
  split
  · rename_i h; subst h; simp
  · simp
theorem rpS_zero (t : Tx) {i : Nat} (h : bI t i = 0) : rpS t i (i / 8 + 1) = rpS t (i + 1) (nB (i + 1)) := by
  rw [nB_succ]
  unfold rpS
  congr 1
  congr 1
  refine List.map_congr_left fun j _ => ?_
  rw [pv, h]
  simp
theorem OwnY.two (w : World) (x y : Int) : OwnY (w.alloc (.cells #[.int .u8 x, .int .u8 y] 5)) w.heap.size 5 (.slice (some ⟨w.heap.size, 0, none⟩) 2 2) [x, y] :=
  ⟨rfl, .inr ⟨w.heap.size, 2, #[.int .u8 x, .int .u8 y], rfl, Nat.le_refl _, heap_alloc_new w _, Nat.le_refl _, by unfold maxLen; omega, rfl, rfl⟩⟩
theorem OwnY.stored {w : World} {B g c n : Nat} {l : List Int} (h : OwnY w B 5 (.slice (some ⟨g, 0, none⟩) n c) l) (hn : l.length = n) (k : Nat) (x : Int) :
    OwnY (w.setCell ⟨g, k, none⟩ (.int .u8 x)) B 5 (.slice (some ⟨g, 0, none⟩) n c) (l.set k x) := by
  subst hn
  have h' : w.ownsRow B 5 1 (.slice (some ⟨g, 0, none⟩) l.length c) l.length (l.map (Value.int .u8)) := h
  have := (h'.stored k (.int .u8 x)).1
  unfold OwnY
  rw [List.map_set, List.length_set]
  exact this
theorem OwnY.form1 {w : World} {B : Nat} {e : TypeId} {v : Value} {l : List Int} {n : Nat} (h : OwnY w B e v l) (hn : l.length = n) (h0 : 0 < n) :
    ∃ g c, v = .slice (some ⟨g, 0, none⟩) n c ∧ B ≤ g ∧ g < w.heap.size ∧ n ≤ c ∧ (∀ k, k < n → w.cell? ⟨g, k, none⟩ = some (.int .u8 (ix l k))) ∧ ∀ k, w.frozen? ⟨g, k, none⟩ = false := by
  subst hn
  rcases h.form with ⟨-, rfl⟩ | ⟨g, c, h1, h2, h3, h4, h5, h6, h7⟩
  · exact absurd h0 (Nat.lt_irrefl _)
  · exact ⟨g, c, h1, h2, h3, h4, h6, h7⟩
/-- bytes come back -/
def LisY (L : List Int) (w : World) (e : Ending) (w' : World) : Prop := Below w.heap.size w w' ∧ ∃ A c, e = .returned (.slice A L.length c) ∧ RdY w' w'.heap.size A L
def LisYE (L : List Int) (E : Int) (w : World) (e : Ending) (w' : World) : Prop := Below w.heap.size w w' ∧ ∃ A c, e = .returned (.tuple #[.slice A L.length c, .int .i64 E]) ∧ RdY w' w'.heap.size A L
theorem hf8 (R : Nat) (h : R < 8) : hf (8 - R) = 2 ^ (7 - R) ∧ 1 ≤ (2 : Int) ^ (7 - R) ∧ (2 : Int) ^ (7 - R) ≤ 128 := by
  have : R = 0 ∨ R = 1 ∨ R = 2 ∨ R = 3 ∨ R = 4 ∨ R = 5 ∨ R = 6 ∨ R = 7 := by omega
  rcases this with rfl | rfl | rfl | rfl | rfl | rfl | rfl | rfl <;> decide
def paE (t : Tx) : Int := if vbB t = true then 0 else 31
def paL (t : Tx) : List Int := if vbB t = true then packL t else []
theorem packL_len (t : Tx) : (packL t).length = 2 + nB t.length := pkS_len t _
theorem LisYE.none {w w' : World} {E : Int} (hb : Below w.heap.size w w') : LisYE [] E w (.returned (.tuple #[.slice Option.none 0 0, .int .i64 E])) w' := ⟨hb, Option.none, 0, rfl, .inl rfl⟩
set_option maxHeartbeats 2000000 in
theorem Pack_any (t : Tx) (w : World) (h : t.length ≤ 1000000) : Calls Tryd.prog 15 #[.string ⟨t.toArray⟩] w (LisYE (paL t) (paE t) w) := by
  have HV := Lib.hid (fun W => ValidBits_any t W h)
  unfold paL paE
  cases hv : vbB t
  · have HK : Hid (∀ w', Below w.heap.size w w' → LisYE (if false = true then packL t else []) (if false = true then 0 else 31) w (.returned (.tuple #[.slice none 0 0, .int .i64 31])) w') := Lib.hid fun w' hb => LisYE.none hb
    rw [hv] at HV
    clear hv
    generalize LisYE _ _ w = R at *
    go_enter Tryd.func15, Tryd.ntmps15
    go_wp2_with (go_at_call 35; refine (HV.out _).mono ?_; rintro e w1 ⟨rfl, h1⟩)
    exact HK.out _ h1
  · have HP := Lib.hid (fun W => pack_any t W (vbB_iff.1 hv).2 (vbB_iff.1 hv).1)
    have HK : Hid (∀ w1 w2 : World, Below w.heap.size w w1 → Below w1.heap.size w1 w2 → BoxY w2 w1.heap.size (packL t) → LisYE (if true = true then packL t else []) (if true = true then 0 else 31) w (.returned (.tuple #[.slice (some ⟨w1.heap.size, 0, Option.none⟩) (2 + nB t.length) (2 + nB t.length), .int .i64 0])) w2) :=
      Lib.hid fun w1 w2 h1 h2 hb => ⟨h1.trs h2, some ⟨w1.heap.size, 0, Option.none⟩, 2 + nB t.length, by simp [packL_len], by simpa using hb.rd⟩
    rw [hv] at HV
    clear hv
    generalize LisYE _ _ w = R at *
    generalize 2 + nB t.length = m at *
    generalize packL t = l at *
    go_enter Tryd.func15, Tryd.ntmps15
    go_wp2_with (first
      | (go_at_call 35; refine (HV.out _).mono ?_; rintro e w1 ⟨rfl, h1⟩)
      | (go_at_call 38; refine (HP.out _).mono ?_; rintro e w2 ⟨rfl, hb2, h2⟩; replace hb2 := Lib.hid hb2))
    exact HK.out _ _ h1 h2 hb2.out
end Go.Proofs.YtkjiancdhaocaaaDoor
