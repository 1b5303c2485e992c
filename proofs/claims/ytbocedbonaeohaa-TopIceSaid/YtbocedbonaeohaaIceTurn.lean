/- The walks over Turned and its reference, slices.Clone and slices.Reverse at layers. -/
import Derived.Test.YtbocedbonaeohaaIceRefPlain
namespace Go.Proofs.Ytbocedbonaeohaa
set_option linter.unusedVariables false
open Go.RowKit

section
variable {P : Program} {ops : Array Oper} {rest : List Oper} {o : Oper} {a : Act} {Q : Exit → Act → World → Prop}
theorem cells2_append (a b : List (Int × Int)) : cells2 (a ++ b) = cells2 a ++ cells2 b := by simp [cells2]
/-- 'append(out, s...)', s not empty. -/
theorem wp_app_pairs (T e : TypeId) (hgd : o.guard = none) (s x : Operand) (ho : o.op = .call { callee := .builtin .append, args := #[s, x], argTypes := #[T, T] })
    (hT : P.underlying T = some (.slice e)) (hI : (P.info? e).map (fun i => (i.zero, i.size, i.bytes)) = some (some (.agg #[.int .i64 0, .int .i64 0]), 2, 16))
    (W : World) (B : Nat) (v : Value) (l L : List (Int × Int)) (A : Option Addr) (c : Nat) (hs : a.eval s = v) (hx : a.eval x = .slice A L.length c) (hown : OwnP W B e v l) (hr : RdP W W.heap.size A L) (hne : L ≠ []) (hlen : l.length ≤ 1000000) (hlen2 : L.length ≤ 1000000) (hB : B ≤ W.heap.size)
    (h : ∀ v' w', OwnP w' B e v' (l ++ L) → Below B W w' → Spared v (l.length * 2) W w' → wpList P ops Q rest (a.put o.dst v') w') :
    wpList P ops Q (o :: rest) a W := by
  obtain ⟨i0, hi, hz0, hz1, hz2⟩ := info_parts hI
  rcases hr with h0 | ⟨b, off, rfl, hb, hc⟩
  · exact absurd h0 hne
  refine wpList_plain hgd fun K hK => wp_append_kept W s x T ho B e i0 (.agg #[.int .i64 0, .int .i64 0]) 2 16 hT hi hz0 hz1 hz2 rfl (by decide) v l.length _ hs hown ⟨b, off, none⟩ L.length c (cells2 L) hx (cells2_length L) ?_ ?_ (by unfold maxLen; omega) (by omega) hB ?_
  · intro j u hu
    rw [Addr.add_lit]
    have hj : j < L.length * 2 := by rw [← cells2_length]; exact (List.getElem?_eq_some_iff.1 hu).1
    obtain ⟨k, hk⟩ : ∃ k, j = k * 2 ∨ j = k * 2 + 1 := ⟨j / 2, by omega⟩
    have hkl : k < L.length := by omega
    have hg := cells2_get L k hkl
    rcases hk with rfl | rfl
    · rw [hg.1] at hu; rw [(hc k hkl).1]; exact hu
    · rw [hg.2] at hu; rw [← Nat.add_assoc, (hc k hkl).2]; exact hu
  · intro u hu
    simp only [cells2, List.mem_flatMap] at hu
    obtain ⟨p, _, hu⟩ := hu
    simp at hu
    rcases hu with rfl | rfl <;> rfl
  · intro v' w' h1 h2
    refine hK _ _ (h v' w' ?_ ?_ h2)
    · show w'.ownsRow B e 2 v' (l ++ L).length (cells2 (l ++ L))
      rw [List.length_append, cells2_append]
      exact h1
    · exact (Below.refl _ _).grown h2.by_ hB (fun k hk => (World.ownsRow.lt hown k hk).1)
end

theorem CloneL_any (A : Option Addr) (c : Nat) (L : List (Int × Int)) (w : World) (hr : RdP w w.heap.size A L) (hne : L ≠ []) (hl : L.length ≤ 1000000) :
    Calls Try.prog 18 #[.slice A L.length c] w fun e w' => ∃ v, e = .returned v ∧ OwnP w' w.heap.size 39 v L ∧ Below w.heap.size w w' := by
  have hA : ∃ b o, A = some ⟨b, o, none⟩ := by
    rcases hr with h | ⟨b, o, h, _⟩
    · exact absurd h hne
    · exact ⟨b, o, h⟩
  have HR := Lib.hid hr; clear hr
  have HN := Lib.hid hne; clear hne
  obtain ⟨b, o, rfl⟩ := hA
  have hq := fun W : World => Lib.run_eql_slice_nil (P := Try.prog) (w := W)
  go_enter Try.func18, Try.ntmps18
  have hown : OwnP (w.alloc (.cells #[] 39)) w.heap.size 39 (.slice (some ⟨w.heap.size, 0, none⟩) 0 0) [] := World.ownsRow_lit w #[] 0 (Nat.le_refl _) (by decide) rfl
  have hr1 := HR.out.on (below_alloc w (.cells #[] 39))
  have HO := Lib.hid hown; clear hown
  have HR1 := Lib.hid hr1; clear hr1
  go_wp2_with (at_builtin; refine wp_app_pairs 22 39 rfl (.tmp 5) (.tmp 6) rfl Try.underlying22 infoLayer _ w.heap.size (.slice (some ⟨w.heap.size, 0, none⟩) 0 0) [] L (some ⟨b, o, none⟩) c rfl rfl HO.out HR1.out HN.out (by decide) hl (by simp) ?_; intro v' w' hO3 hB3 _)
  go_ret
  exact ⟨v', rfl, hO3, (below_alloc _ _).trans hB3⟩

/-! ### slices.Reverse -/
def swp (M : List (Int × Int)) (i j : Nat) : List (Int × Int) := (M.set i (pa M j, pb M j)).set j (pa M i, pb M i)
def rvd (L : List (Int × Int)) (i : Nat) (M : List (Int × Int)) : Prop := M.length = L.length ∧ ∀ k, k < L.length → M.getD k (0, 0) = if k < i ∨ L.length ≤ k + i then L.getD (L.length - 1 - k) (0, 0) else L.getD k (0, 0)
theorem rvd_zero (L : List (Int × Int)) : rvd L 0 L := ⟨rfl, fun k hk => by simp; omega⟩
theorem rvd_succ {L M : List (Int × Int)} {i : Nat} (h : rvd L i M) (hi : i < L.length - 1 - i) : rvd L (i + 1) (swp M i (L.length - 1 - i)) := by
  refine ⟨by simp [swp, h.1], fun k hk => ?_⟩
  have h1 := h.2 k hk
  have h2 := h.2 i (by omega)
  have h3 := h.2 (L.length - 1 - i) (by omega)
  have e1 : ∀ q, (pa M q, pb M q) = M.getD q (0, 0) := fun q => rfl
  simp only [swp, e1, List.getD_eq_getElem?_getD, List.getElem?_set, List.length_set, h.1] at *
  by_cases hkj : L.length - 1 - i = k
  · subst hkj
    rw [if_pos rfl, if_pos hk, if_pos (.inr (by omega))]
    rw [if_neg (by omega)] at h2
    simp only [Option.getD_some, h2]
    congr 2; omega
  · rw [if_neg hkj]
    by_cases hki : i = k
    · subst hki
      rw [if_pos rfl, if_pos hk, if_pos (.inl (by omega))]
      rw [if_neg (by omega)] at h3
      simp only [Option.getD_some, h3]
    · rw [if_neg hki, h1]
      by_cases hc : k < i ∨ L.length ≤ k + i
      · rw [if_pos hc, if_pos (by omega)]
      · rw [if_neg hc, if_neg (by omega)]
theorem rvd_end {L M : List (Int × Int)} {i : Nat} (h : rvd L i M) (hi : L.length ≤ 2 * i + 1) : M = L.reverse := by
  refine List.ext_getElem (by simp [h.1]) fun k h1 h2 => ?_
  rw [List.getElem_reverse]
  have := h.2 k (by rw [← h.1]; exact h1)
  rw [List.getD_eq_getElem?_getD, List.getElem?_eq_getElem h1] at this
  have hk : k < L.length := by rw [← h.1]; exact h1
  have g : ∀ q, (hq : q < L.length) → L.getD q (0, 0) = L[q] := fun q hq => by rw [List.getD_eq_getElem?_getD, List.getElem?_eq_getElem hq]; rfl
  have e : M[k] = M.getD k (0, 0) := by rw [List.getD_eq_getElem?_getD, List.getElem?_eq_getElem h1]; rfl
  rw [e, h.2 k hk]
  by_cases hc : k < i ∨ L.length ≤ k + i
  · rw [if_pos hc, g _ (by omega)]
  · rw [if_neg hc, g _ hk]
    congr 1; omega

theorem OwnP.setP {w : World} {B : Nat} {e : TypeId} {g n c : Nat} {l : List (Int × Int)} (h : OwnP w B e (.slice (some ⟨g, 0, none⟩) n c) l) (k : Nat) (x y : Int) (hk : k < l.length) :
    OwnP ((w.setCell ⟨g, k * 2, none⟩ (.int .i64 x)).setCell ⟨g, k * 2 + 1, none⟩ (.int .i64 y)) B e (.slice (some ⟨g, 0, none⟩) n c) (l.set k (x, y)) := by
  have hn : n = l.length := by
    rcases h.form with ⟨h0, _⟩ | ⟨_, _, he, _⟩
    · cases h0
    · injection he
  subst hn
  have h1 := OwnP.setA h k x
  have h2 : OwnP (w.setCell ⟨g, k * 2, none⟩ (.int .i64 x)) B e (.slice (some ⟨g, 0, none⟩) (l.set k (x, pb l k)).length c) (l.set k (x, pb l k)) := by rw [List.length_set]; exact h1
  have h3 := OwnP.setB h2 k y
  rw [List.length_set, List.set_set] at h3
  rwa [show pa (l.set k (x, pb l k)) k = x by simp [pa, hk]] at h3

theorem ReverseL_any (B g c : Nat) (L : List (Int × Int)) (w : World) (hown : OwnP w B 39 (.slice (some ⟨g, 0, none⟩) L.length c) L) (hB : B ≤ w.heap.size) (hl : L.length ≤ 1000000) :
    Calls Try.prog 19 #[.slice (some ⟨g, 0, none⟩) L.length c] w fun e w' => e = .returned (.tuple #[]) ∧ OwnP w' B 39 (.slice (some ⟨g, 0, none⟩) L.length c) L.reverse ∧ Below B w w' := by
  have hw0 : IntKind.i64.wrap ((L.length : Int) - 1) = (L.length : Int) - 1 := IntWalk.i64_in _ (by omega)
  go_enter Try.func19, Try.ntmps19
  go_wp2
  go_loopg [2, 3] L.length (fun k s t wr => ∃ (i : Nat) (M : List (Int × Int)), s = .int .i64 i ∧ t = .int .i64 ((L.length : Int) - 1 - i) ∧ i ≤ L.length ∧ L.length - i ≤ k ∧ rvd L i M ∧ Below B w wr ∧ OwnP wr B 39 (.slice (some ⟨g, 0, none⟩) L.length c) M)
  case atStart => exact ⟨0, L, rfl, by simp, by omega, by omega, rvd_zero L, Below.refl _ _, hown⟩
  case round =>
    obtain ⟨i, M, rfl, rfl, hi, hk, hR, hB1, hO⟩ := hrel
    generalize hJ : (L.length : Int) - 1 - (i : Int) = J
    have HJ := Lib.hid hJ; clear hJ
    by_cases hlt : (i : Int) < J
    · obtain ⟨j, hj⟩ : ∃ j : Nat, J = j := ⟨J.toNat, by have := HJ.out; omega⟩
      subst hj
      have hjn : (j : Int) < (L.length : Int) := by have := HJ.out; omega
      have hln : M.length = L.length := hR.1
      rcases hO.form with ⟨h0, _⟩ | ⟨g', cc, he, hg1, hg2, hg3, _, hcells, hfz⟩
      · cases h0
      injection he with he hle hcc
      injection he with he
      injection he with he _ _
      subst he; subst hcc
      clear hle
      obtain ⟨c1, c2⟩ := hcells i (by omega)
      obtain ⟨d1, d2⟩ := hcells j (by omega)
      have f1 := hfz (i * 2)
      have f2 := hfz (i * 2 + 1)
      have f3 := hfz (j * 2)
      have f4 := hfz (j * 2 + 1)
      have hi0 : (0 : Int) ≤ (i : Int) := by omega
      have hj0 : (0 : Int) ≤ (j : Int) := by omega
      have hin : (i : Int) < (L.length : Int) := by omega
      have hwi : IntKind.i64.wrap ((i : Int) + 1) = (i : Int) + 1 := IntWalk.i64_in _ (by omega)
      have hwj : IntKind.i64.wrap ((j : Int) - 1) = (j : Int) - 1 := IntWalk.i64_in _ (by omega)
      have hni : i ≠ j := by omega
      have hni2 : j ≠ i := by omega
      have HR := Lib.hid hR
      have HO := Lib.hid hO
      clear hO hcells hfz hln hR
      go_wp2_with fail
      go_region
      all_goals
        go_wp2_with fail
        go_roundg (L.length - (i + 1))
        case measure => omega
        case rel =>
          have hg1' : w.heap.size ≤ w.heap.size := Nat.le_refl _
          have h1 := (HO.out.setP i (pa M j) (pb M j) (by rw [HR.out.1]; omega)).setP j (pa M i) (pb M i) (by rw [List.length_set, HR.out.1]; omega)
          have h2 := rvd_succ HR.out (by have := HJ.out; omega)
          rw [show L.length - 1 - i = j by have := HJ.out; omega] at h2
          refine ⟨i + 1, swp M i j, rfl, by have := HJ.out; go_num, by omega, by omega, h2, ?_, h1.kept (Below.drewsN (Below.refl _ _) 1)⟩
          exact Below.drewsN ((((hB1.setCell (p := ⟨_, _, none⟩) hg1 _).setCell (p := ⟨_, _, none⟩) hg1 _).setCell (p := ⟨_, _, none⟩) hg1 _).setCell (p := ⟨_, _, none⟩) hg1 _) 1
    · have hE := rvd_end hR (by have := HJ.out; omega)
      subst hE
      go_wp2
      first | go_end0 | (refine bodyPost_ret (results_none rfl _ _ _) rfl ?_)
      exact ⟨rfl, hO, hB1⟩
end Go.Proofs.Ytbocedbonaeohaa
