/- Plain lemmas for slices of tasks that are cut and joined. -/
import Derived.Test.YtdafiblnanpiiaaAlRK
import Derived.Test.YtdafiblnanpiiaaAlLawL
import Derived.Test.YtdafiblnanpiiaaAlMc
namespace Go.Proofs.Ytdafiblnanpiiaa
open Go.RowKit
set_option linter.unusedSimpArgs false
set_option linter.unusedVariables false

section
variable {P : Program} {ops : Array Oper} {o : Oper} {a : Act} {Q : Exit → Act → World → Prop} {K : Act → World → Prop} {E : Prop}
/-- 'append(v, s...)' of triples, s with an address, empty or not, at a step of a region that draws its order. -/
theorem step_app_tripsA (T e : TypeId) (hgd : o.guard = none) (s x : Operand) (ho : o.op = .call { callee := .builtin .append, args := #[s, x], argTypes := #[T, T] })
    (hT : P.underlying T = some (.slice e)) (hI : (P.info? e).map (fun i => (i.zero, i.size, i.bytes)) = some (some (.agg #[.int .i64 0, .int .i64 0, .int .i64 0]), 3, 24))
    (W : World) (B : Nat) (v : Value) (l L : List (Int × Int × Int)) (b off c : Nat) (hs : a.eval s = v) (hx : a.eval x = .slice (some ⟨b, off, none⟩) L.length c) (hown : OwnT W B e v l) (hr : RdT W W.heap.size (some ⟨b, off, none⟩) L) (hlen : l.length ≤ 1000000) (hlen2 : L.length ≤ 1000000) (hB : B ≤ W.heap.size)
    (h : ∀ v' w', OwnT w' B e v' (l ++ L) → Below B W w' → K (a.put o.dst v') w') :
    if Region.wanted o (yielded ops a.tmps) = true then Oper.wp P o a W K Q else E := by
  have hw : Region.wanted o (yielded ops a.tmps) = true := by simp [Region.wanted, hgd]
  rw [if_pos hw]
  obtain ⟨i0, hi, hz0, hz1, hz2⟩ := info_parts hI
  refine wp_append_fresh W s x T ho B e i0 (.agg #[.int .i64 0, .int .i64 0, .int .i64 0]) 3 24 hT hi hz0 hz1 hz2 rfl (by decide) v l.length _ hs hown ⟨b, off, none⟩ L.length c (cells3 L) hx (cells3_length L) ?_ (cells3_one L) (by unfold maxLen; omega) (by omega) hB ?_
  · intro j u hu
    have hj : j < L.length * 3 := by rw [← cells3_length]; exact (List.getElem?_eq_some_iff.1 hu).1
    rcases hr with rfl | ⟨b', o', he, hb, hc⟩
    · simp at hj
    · injection he with he; injection he with e1 e2; subst e1; subst e2
      rw [Addr.add_lit]
      obtain ⟨k, hk⟩ : ∃ k, j = k * 3 ∨ j = k * 3 + 1 ∨ j = k * 3 + 2 := ⟨j / 3, by omega⟩
      have hkl : k < L.length := by omega
      have hg := cells3_get L k hkl
      rcases hk with rfl | rfl | rfl
      · rw [hg.1] at hu; rw [(hc k hkl).1]; exact hu
      · rw [hg.2.1] at hu; rw [← Nat.add_assoc, (hc k hkl).2.1]; exact hu
      · rw [hg.2.2] at hu; rw [← Nat.add_assoc, (hc k hkl).2.2]; exact hu
  · intro v' w' h1 h2 h3
    refine h v' w' ?_ ?_
    · show w'.ownsRow B e 3 v' (l ++ L).length (cells3 (l ++ L))
      rw [List.length_append, cells3_append]
      exact h1
    · exact (Below.refl _ _).grown h2.by_ hB (fun k hk => (World.ownsRow.lt hown k hk).1)
theorem wp_app_tripsA {rest : List Oper} (T e : TypeId) (hgd : o.guard = none) (s x : Operand) (ho : o.op = .call { callee := .builtin .append, args := #[s, x], argTypes := #[T, T] })
    (hT : P.underlying T = some (.slice e)) (hI : (P.info? e).map (fun i => (i.zero, i.size, i.bytes)) = some (some (.agg #[.int .i64 0, .int .i64 0, .int .i64 0]), 3, 24))
    (W : World) (B : Nat) (v : Value) (l L : List (Int × Int × Int)) (A : Option Addr) (c : Nat) (hs : a.eval s = v) (hx : a.eval x = .slice A L.length c) (hown : OwnT W B e v l) (hr : RdT W W.heap.size A L) (hne : L ≠ []) (hlen : l.length ≤ 1000000) (hlen2 : L.length ≤ 1000000) (hB : B ≤ W.heap.size)
    (h : ∀ v' w', OwnT w' B e v' (l ++ L) → Below B W w' → wpList P ops Q rest (a.put o.dst v') w') :
    wpList P ops Q (o :: rest) a W :=
  wp_app_trips T e hgd s x ho hT hI W B v l L A c hs hx hown hr hne hlen hlen2 hB (fun v' w' h1 h2 _ _ => h v' w' h1 h2)
end
theorem RdT.take {w : World} {B b o : Nat} {L : List (Int × Int × Int)} (h : RdT w B (some ⟨b, o, none⟩) L) (i : Nat) : RdT w B (some ⟨b, o, none⟩) (L.take i) := by
  rcases h with rfl | ⟨b', o', he, hb, hc⟩
  · exact .inl (by simp)
  · injection he with he; injection he with e1 e2; subst e1; subst e2
    refine .inr ⟨_, _, rfl, hb, fun k hk => ?_⟩
    rw [List.length_take] at hk
    have h1 := hc k (by omega)
    have e : (L.take i).getD k (0, 0, 0) = L.getD k (0, 0, 0) := by
      simp [List.getD, List.getElem?_take, show k < i by omega]
    unfold ta tb tc at h1 ⊢
    rw [e]; exact h1
theorem RdT.drop {w : World} {B b o : Nat} {L : List (Int × Int × Int)} (h : RdT w B (some ⟨b, o, none⟩) L) (j : Nat) : RdT w B (some ⟨b, o + j * 3, none⟩) (L.drop j) := by
  rcases h with rfl | ⟨b', o', he, hb, hc⟩
  · exact .inl (by simp)
  · injection he with he; injection he with e1 e2; subst e1; subst e2
    refine .inr ⟨_, _, rfl, hb, fun k hk => ?_⟩
    rw [List.length_drop] at hk
    have h1 := hc (j + k) (by omega)
    have e : (L.drop j).getD k (0, 0, 0) = L.getD (j + k) (0, 0, 0) := by simp [List.getD, List.getElem?_drop]
    unfold ta tb tc at h1 ⊢
    rw [e, show o + j * 3 + k * 3 = o + (j + k) * 3 by omega]; exact h1
theorem mac_less {L L2 : List (Int × Int × Int)} (h : ∀ k : Int, SevP L k → SevP L2 k) (h0 : mac L ≠ 0) : mac L2 ≠ 0 ∧ mac L2 ≤ mac L := by
  have h1 := sevB_mac L (k := mac L) (Nat.pos_of_ne_zero h0) (mac_le L)
  rw [decide_eq_true ⟨Nat.pos_of_ne_zero h0, Nat.le_refl _⟩] at h1
  have h2 := sevB_iff.2 (h _ (sevB_iff.1 h1))
  rw [sevB_mac L2 (Nat.pos_of_ne_zero h0) (mac_le L), decide_eq_true_eq] at h2
  omega
end Go.Proofs.Ytdafiblnanpiiaa
