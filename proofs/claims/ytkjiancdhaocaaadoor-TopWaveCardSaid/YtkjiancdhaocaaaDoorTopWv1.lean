/- TopWv1 LibS TopWv2 -/
import Derived.Test.YtkjiancdhaocaaaDoorWvPc
import Derived.Test.YtkjiancdhaocaaaDoorWvBd
import Derived.Test.YtkjiancdhaocaaaDoorLib2
import Derived.Test.YtkjiancdhaocaaaDoorWvLaw
import Derived.Test.YtkjiancdhaocaaaDoorWvX
import Derived.Test.YtkjiancdhaocaaaDoorWvZ
/- What TopWave asks of each text: plain. -/
namespace Go.Proofs.YtkjiancdhaocaaaDoor
open Go.RowKit Go.Shelf
set_option linter.unusedSimpArgs false
set_option linter.unusedVariables false

theorem leT_split {a b : Tx} (h : leT a b = true) : (a.length : Int) < (b.length : Int) ∨ (b.length = a.length ∧ Go.Op.bytesLess b a = false) := by
  rw [leT_iff] at h
  rcases h with h | ⟨h1, h2⟩
  · exact .inl (by omega)
  · refine .inr ⟨h1.symm, ?_⟩
    rcases h2 with h2 | rfl
    · cases hb : Go.Op.bytesLess b a with
      | false => rfl
      | true => have := bl_trans h2 hb; rw [bl_irr] at this; cases this
    · exact bl_irr _
theorem plan_part {s ws : List Int} (h : vldW s = true) : ((planE s ws == 0) = false ∧ ¬ planE s ws = 0) ∨ (planE s ws = 0 ∧ ((encT s).length : Int) < ((planX s ws).length : Int)) ∨ (planE s ws = 0 ∧ (planX s ws).length = (encT s).length ∧ Go.Op.bytesLess (planX s ws) (encT s) = false) := by
  by_cases h0 : planE s ws = 0
  · obtain ⟨p, p1, p2, p3, p4, p5⟩ := plan_made h h0
    have := leT_split (enc_best h p1 p2)
    rw [← p4] at this
    rcases this with h1 | ⟨h1, h2⟩
    · exact .inr (.inl ⟨h0, h1⟩)
    · exact .inr (.inr ⟨h0, h1, h2⟩)
  · exact .inl ⟨beq_eq_false_iff_ne.2 h0, h0⟩
theorem text_part {s : List Int} {t : Tx} (h : vldW s = true) : (isV s t = false ∧ isE s t = 0) ∨ (isV s t = false ∧ isE s t = 31) ∨ (isV s t = true ∧ isE s t = 0 ∧ ((encT s).length : Int) < (t.length : Int)) ∨ (isV s t = true ∧ isE s t = 0 ∧ t.length = (encT s).length ∧ Go.Op.bytesLess t (encT s) = false) := by
  have hE : isE s t = if vbB t = true then 0 else 31 := by unfold isE; rw [if_pos h]
  cases hi : isV s t
  · by_cases hv : vbB t = true
    · rw [if_pos hv] at hE; exact .inl ⟨rfl, hE⟩
    · rw [if_neg hv] at hE; exact .inr (.inl ⟨rfl, hE⟩)
  · obtain ⟨-, h1, h2⟩ := isV_text hi
    have hv : vbB t = true := by
      unfold deE at h1
      cases hv : vbB t with
      | true => rfl
      | false => rw [hv] at h1; cases h1
    rw [if_pos hv] at hE
    obtain ⟨-, p, p1, p2, -, -, p5, -⟩ := text_plan h1
    have hb := leT_trans (enc_best h p1 (p2.trans h2)) (le2_leT p5)
    rcases leT_split hb with h3 | ⟨h3, h4⟩
    · exact .inr (.inr (.inl ⟨rfl, hE, h3⟩))
    · exact .inr (.inr (.inr ⟨rfl, hE, h3, h4⟩))
theorem packL_bytes {t : Tx} (h : t.length ≤ 1000) : ∀ k, k < (packL t).length → 0 ≤ ix (packL t) k ∧ ix (packL t) k ≤ 255 := fun k hk => by
  rw [packL_len] at hk
  by_cases h2 : 2 ≤ k
  · obtain ⟨j, rfl⟩ : ∃ j, k = 2 + j := ⟨k - 2, by omega⟩
    unfold packL
    rw [pkS_ix t _ (by omega)]
    exact pv_bd t _ _
  · have : k = 0 ∨ k = 1 := by omega
    rcases this with rfl | rfl
    · show 0 ≤ ((t.length / 256 : Nat) : Int) ∧ ((t.length / 256 : Nat) : Int) ≤ 255
      omega
    · show 0 ≤ ((t.length % 256 : Nat) : Int) ∧ ((t.length % 256 : Nat) : Int) ≤ 255
      omega
/-- a text comes back from its bytes -/
theorem up_of_pack {t : Tx} (hb : bitsB t = true) (hl : t.length ≤ 1000) : upE (packL t) = 0 ∧ upR (packL t) = t := by
  have hn : upN (packL t) = t.length := by
    show (((t.length / 256 : Nat) : Int) * 256 + ((t.length % 256 : Nat) : Int)).toNat = t.length
    omega
  have h := up_some (l := packL t) (by
    rw [hn, packL_len, up_pack hb]
    refine ⟨by omega, by unfold nB; omega, by unfold nB; omega, rfl⟩)
  rw [hn, up_pack hb] at h
  exact h
/-- the widths are as many as the differences -/
theorem rd_lens : ∀ (n : Nat) (lo : Bool) (t : Tx) (k : Nat) (r : Rd), t.length = n → rdF lo t k = some r → r.2.1.length = r.1.length := by
  intro n
  induction n using Nat.strongRecOn with
  | _ n ih =>
    intro lo t k r hn h
    have hw := (okW_le (wid_ok k)).1
    rw [rdF] at h
    split at h
    · injection h with h; subst h; rfl
    · rename_i h0
      split at h
      · cases h
      · split at h
        · obtain ⟨r', hr', rfl⟩ := Option.map_eq_some_iff.1 h
          have := ih _ (by rw [List.length_drop]; omega) false _ k r' rfl hr'
          simp [this]
        · split at h
          · cases h
          · split at h
            · split at h
              · obtain ⟨r', hr', rfl⟩ := Option.map_eq_some_iff.1 h
                exact ih _ (by rw [List.length_drop]; omega) true _ _ r' rfl hr'
              · cases h
            · split at h
              · obtain ⟨r', hr', rfl⟩ := Option.map_eq_some_iff.1 h
                exact ih _ (by rw [List.length_drop]; omega) true _ _ r' rfl hr'
              · cases h
theorem dW_len (t : Tx) : (dW t).length = (dD t).length := by
  rcases de_cases t with ⟨-, -, hd, hw, -⟩ | ⟨-, -, -, hd, hw, -⟩ | ⟨d, ws, m, -, ho, -, hd, hw, -⟩
  · rw [hd, hw]
  · rw [hd, hw]
  · rw [hd, hw]
    exact rd_lens _ false t 2 _ rfl (deO_ok ho).2
theorem dW_len2 (t : Tx) : (dW t).length ≤ 1000000 := by rw [dW_len]; exact dD_len t
/-- what is so of each text of a wave form -/
structure TextQ (s : List Int) (x : Tx) : Prop where
  e : deE x = 0
  d : dD x = difs s
  iv : isV s x = true
  ie : isE s x = 0
  vb : vbB x = true
  le : x.length ≤ 1000
  wl : (dW x).length = s.length
  pE : planE s (dW x) = 0
  p1 : (planX s (dW x)).length ≤ x.length
  p2 : (encT s).length ≤ (planX s (dW x)).length
  best : ((encT s).length : Int) < (x.length : Int) ∨ (x.length = (encT s).length ∧ Go.Op.bytesLess x (encT s) = false)
theorem text_q {s : List Int} {x : Tx} (h : isV s x = true) : TextQ s x := by
  obtain ⟨hv, hE, hd⟩ := isV_text h
  have hvb : vbB x = true := by
    unfold deE at hE
    cases hvb : vbB x with
    | true => rfl
    | false => rw [hvb] at hE; cases hE
  have hie : isE s x = 0 := by unfold isE; rw [if_pos hv, if_pos hvb]
  obtain ⟨-, p, p1, p2, p3, p4, p5, p6⟩ := text_plan hE
  have hds : dsL p = difs s := p2.trans hd
  have hpl : (plL 2 p).length ≤ x.length := by
    rcases p5 with h5 | h5
    · omega
    · rw [h5]; exact Nat.le_refl _
  obtain ⟨q1, q2, q3⟩ := plan_of hv p1 hds (by omega)
  have hb := leT_trans (enc_best hv p1 hds) (le2_leT p5)
  exact ⟨hE, hd, h, hie, hvb, p6, by rw [← p3]; exact q3, by rw [← p3]; exact q1, by rw [← p3, q2]; exact hpl, by rw [← p3, q2]; exact leT_len (enc_best hv p1 hds), leT_split hb⟩
theorem best_v {s : List Int} (h : vldW s = true) : isV s (encT s) = true := by
  obtain ⟨p, p1, p2, p3, -⟩ := enc_plan h
  rw [p3]
  exact (plan_says h p1 p2 (by rw [← p3]; have := (enc_len h).2; omega)).2.2.2.2.1
theorem wide_v {s : List Int} (h : vldW s = true) : isV s (wideT s) = true := by
  obtain ⟨q1, q2, q3, q4⟩ := wide_plan h
  rw [q3]
  exact (plan_says h q1 q2 (by rw [← q3]; omega)).2.2.2.2.1
theorem plan_v {s ws : List Int} (h : vldW s = true) (hE : planE s ws = 0) : isV s (planX s ws) = true := by
  obtain ⟨p, p1, p2, p3, p4, p5⟩ := plan_made h hE
  rw [p4]
  exact (plan_says h p1 p2 p5).2.2.2.2.1
theorem enc_e {s : List Int} (h : vldW s = true) : encE s = 0 := by unfold encE; rw [h]; rfl
end Go.Proofs.YtkjiancdhaocaaaDoor

/- Rows of texts of the call's own: reading, append. (Turned from the like text for integers.) -/
namespace Go.Proofs.YtkjiancdhaocaaaDoor
open Go.RowKit
set_option linter.unusedVariables false

def strV (x : Tx) : Value := .string ⟨x.toArray⟩
/-- The slice value v is of the call's own (blocks from B on) and holds the texts l. -/
def OwnS (w : World) (B : Nat) (v : Value) (l : List Tx) : Prop := w.ownsRow B 9 1 v l.length (l.map strV)
theorem OwnS.kept {w w' : World} {B : Nat} {v : Value} {l : List Tx} (h : OwnS w B v l) (hb : Below w.heap.size w w') : OwnS w' B v l := by
  have h' : w.ownsRow B 9 1 v l.length (l.map strV) := h
  exact h'.kept (row := none) ⟨hb.os, hb.tape, hb.output, hb.size, fun k hk _ => hb.block k hk⟩ (by cases v.ownBlock <;> simp)
theorem OwnS.form1 {w : World} {B : Nat} {v : Value} {l : List Tx} {n : Nat} (h : OwnS w B v l) (hn : l.length = n) (h0 : 0 < n) :
    ∃ g c, v = .slice (some ⟨g, 0, none⟩) n c ∧ B ≤ g ∧ g < w.heap.size ∧ ∀ k (hk : k < l.length), w.cell? ⟨g, k, none⟩ = some (.string ⟨(l[k]).toArray⟩) := by
  subst hn
  have h' : w.ownsRow B 9 1 v l.length (l.map strV) := h
  rcases h'.2 with ⟨h1, h2⟩ | ⟨g, cap, cur, rfl, hb, hg, hc, hm, hs, ht⟩
  · exact absurd h0 (by rw [show l = [] from List.eq_nil_of_length_eq_zero h2]; exact Nat.lt_irrefl _)
  · refine ⟨g, cap, rfl, hb, (Array.getElem?_eq_some_iff.1 hg).1, fun k hk => ?_⟩
    rw [h'.cellAt k (by omega)]
    simp [hk, strV]
theorem OwnS.two (w : World) (x y : Tx) : OwnS (w.alloc (.cells #[.string ⟨x.toArray⟩, .string ⟨y.toArray⟩] 9)) w.heap.size (.slice (some ⟨w.heap.size, 0, none⟩) 2 2) [x, y] :=
  ⟨rfl, .inr ⟨w.heap.size, 2, #[.string ⟨x.toArray⟩, .string ⟨y.toArray⟩], rfl, Nat.le_refl _, heap_alloc_new w _, Nat.le_refl _, by unfold maxLen; omega, rfl, rfl⟩⟩
theorem OwnS.less {w : World} {B B' : Nat} {v : Value} {l : List Tx} (h : OwnS w B v l) (hb : B' ≤ B) : OwnS w B' v l := by
  have h' : w.ownsRow B 9 1 v l.length (l.map strV) := h
  refine ⟨h'.1, ?_⟩
  rcases h'.2 with h1 | ⟨g, cap, cur, h1, h2, h3⟩
  · exact .inl h1
  · exact .inr ⟨g, cap, cur, h1, by omega, h3⟩
section
variable {P : Program} {ops : Array Oper} {rest : List Oper} {o : Oper} {a : Act} {Q : Exit → Act → World → Prop} {K : Act → World → Prop} {E : Prop}
theorem wp_app_str (T : TypeId) (hgd : o.guard = none) (s x : Operand) (ho : o.op = .call { callee := .builtin .append, args := #[s, x], argTypes := #[T, T] })
    (hT : P.underlying T = some (.slice 9)) (hI : (P.info? 9).map (fun i => (i.zero, i.size, i.bytes)) = some (some (.string .empty), 1, 16))
    (W : World) (B : Nat) (v : Value) (l : List Tx) (y : Tx) (hs : a.eval s = v) (hx : a.eval x = .slice (some ⟨W.heap.size, 0, none⟩) 1 1) (hown : OwnS W B v l) (hlen : l.length ≤ 1000000) (hB : B ≤ W.heap.size)
    (h : ∀ v' w', OwnS w' B v' (l ++ [y]) → Below B W w' → wpList P ops Q rest (a.put o.dst v') w') :
    wpList P ops Q (o :: rest) a (W.alloc (.cells #[.string ⟨y.toArray⟩] 9)) := by
  obtain ⟨i0, hi, hz0, hz1, hz2⟩ := info_parts hI
  refine wpList_plain hgd fun K hK => wp_append_kept _ s x T ho B 9 i0 (.string .empty) 1 16 hT hi hz0 hz1 hz2 rfl (by decide) v l.length _ hs (World.ownsRow.alloc hown _) ⟨W.heap.size, 0, none⟩ 1 1 [.string ⟨y.toArray⟩] hx rfl (cell_one_new _ _ _) (by simp [Value.oneCell']) (by unfold maxLen; omega) (by omega) (by simp; omega) ?_
  intro v' w' h1 h2
  have hg : Spared v l.length W w' := by simpa using h2.alloc (fun g hg => (World.ownsRow.lt hown g hg).2)
  refine hK _ _ (h v' w' ?_ ?_)
  · show w'.ownsRow B 9 1 v' (l ++ [y]).length ((l ++ [y]).map strV)
    simpa [strV] using h1
  · exact (Below.refl _ _).grown hg.by_ hB (fun k hk => (World.ownsRow.lt hown k hk).1)
end
end Go.Proofs.YtkjiancdhaocaaaDoor

/- What each call of TopWave's loop hands back for a text of the wave form. -/
namespace Go.Proofs.YtkjiancdhaocaaaDoor
open Go.RowKit Go.Shelf
set_option linter.unusedSimpArgs false
set_option linter.unusedVariables false
attribute [local go_sem] Oper.semAt_some

theorem infoStr : (Tryd.prog.info? 9).map (fun i => (i.zero, i.size, i.bytes)) = some (some (.string .empty), 1, 16) := by kernel_rfl
theorem tDecode {s : List Int} {x : Tx} (q : TextQ s x) (W : World) : Calls Tryd.prog 13 #[.string ⟨x.toArray⟩] W fun e w' => Below W.heap.size W w' ∧ ∃ A c, e = .returned (.tuple #[.slice A s.length c, .int .i64 0]) ∧ RdI w' w'.heap.size A s := by
  have h := Decode_any x W (by have := q.le; omega)
  rw [q.e, q.d, accL_difs] at h
  exact h
theorem tIsText {s : List Int} {x : Tx} (q : TextQ s x) (A : Option Addr) (c : Nat) (W : World) (hr : RdI W W.heap.size A s) (hl : s.length ≤ 1000000) : Calls Tryd.prog 14 #[.slice A s.length c, .string ⟨x.toArray⟩] W fun e w' => e = .returned (.tuple #[.bool true, .int .i64 0]) ∧ Below W.heap.size W w' := by
  have h := IsText_any A c s x W hr hl (by have := q.le; omega)
  rw [q.iv, q.ie] at h
  exact h
theorem tPack {s : List Int} {x : Tx} (q : TextQ s x) (W : World) : Calls Tryd.prog 15 #[.string ⟨x.toArray⟩] W fun e w' => Below W.heap.size W w' ∧ ∃ A c, e = .returned (.tuple #[.slice A (packL x).length c, .int .i64 0]) ∧ RdY w' w'.heap.size A (packL x) := by
  have h := Pack_any x W (by have := q.le; omega)
  unfold LisYE paL paE at h
  rw [q.vb] at h
  simpa using h
theorem tUnpack {s : List Int} {x : Tx} (q : TextQ s x) (A : Option Addr) (c : Nat) (W : World) (hr : RdY W W.heap.size A (packL x)) : Calls Tryd.prog 17 #[.slice A (packL x).length c] W fun e w' => e = .returned (.tuple #[.string ⟨x.toArray⟩, .int .i64 0]) ∧ Below W.heap.size W w' := by
  obtain ⟨hl, hb⟩ := vbB_iff.1 q.vb
  obtain ⟨h1, h2⟩ := up_of_pack hb hl
  have h := Unpack_any A c (packL x) W hr (by rw [packL_len]; unfold nB; omega) (packL_bytes hl)
  unfold TxE at h
  rw [h1, h2] at h
  exact h
theorem tWidths {s : List Int} {x : Tx} (q : TextQ s x) (W : World) : Calls Tryd.prog 18 #[.string ⟨x.toArray⟩] W fun e w' => Below W.heap.size W w' ∧ ∃ A c, e = .returned (.tuple #[.slice A s.length c, .int .i64 0]) ∧ RdI w' w'.heap.size A (dW x) := by
  have h := Widths_any x W (by have := q.le; omega)
  unfold LisE at h
  rw [q.e, q.wl] at h
  exact h
theorem tPlan {s : List Int} {x : Tx} (q : TextQ s x) (A : Option Addr) (c : Nat) (A2 : Option Addr) (c2 : Nat) (W : World) (hr : RdI W W.heap.size A s) (hr2 : RdI W W.heap.size A2 (dW x)) (hl : s.length ≤ 1000000) : Calls Tryd.prog 11 #[.slice A s.length c, .slice A2 s.length c2] W fun e w' => e = .returned (.tuple #[.string ⟨(planX s (dW x)).toArray⟩, .int .i64 0]) ∧ Below W.heap.size W w' := by
  have h := Plan_any A c A2 c2 s (dW x) W hr hr2 hl (by rw [q.wl]; exact hl)
  unfold PlanQ at h
  rw [q.wl, q.pE] at h
  exact h
end Go.Proofs.YtkjiancdhaocaaaDoor
