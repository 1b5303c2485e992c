/- The reference's search, in steps; its memory at the start. -/
import Derived.Test.YtdafiblnanpiiaaAlPm
import Derived.Test.YtdafiblnanpiiaaAlMc
namespace Go.Proofs.Ytdafiblnanpiiaa
open Go.RowKit
set_option linter.unusedSimpArgs false
set_option linter.unusedVariables false

theorem nodup_len (n : Nat) : ∀ Q : List Nat, Q.Nodup → (∀ j ∈ Q, j < n) → Q.length ≤ n := by
  induction n with
  | zero =>
    intro Q _ h
    cases Q with
    | nil => exact Nat.le_refl _
    | cons a r => have := h a (by simp); omega
  | succ n ih =>
    intro Q hd h
    by_cases hm : n ∈ Q
    · have h1 := ih (Q.erase n) (hd.erase n) (fun j hj => by
        have h2 := (hd.mem_erase_iff).1 hj
        have := h j h2.2
        omega)
      rw [List.length_erase_of_mem hm] at h1
      omega
    · have := ih Q hd (fun j hj => by
        have h2 := h j hj
        have : j ≠ n := fun e => hm (e ▸ hj)
        omega)
      omega
theorem Bf.len {L : List (Int × Int × Int)} {H : Nat → Nat → Bool} {task : Nat} {Q : List Nat} {bm fr : Nat → Int} (h : Bf L H task Q bm fr) : Q.length ≤ L.length := nodup_len _ Q h.nd h.lt

/-- before the queue's q-th task -/
structure Out (L : List (Int × Int × Int)) (K : Int) (H : Nat → Nat → Bool) (task q : Nat) (Q : List Nat) (bm fr : Nat → Int) : Prop where
  bf : Bf L H task Q bm fr
  shut : Shut L K H Q bm
  gone : ∀ a ∈ Q.take q, Gone L H bm a
/-- the queue's q-th task is i, its minutes before m are gone through -/
structure Mid (L : List (Int × Int × Int)) (K : Int) (H : Nat → Nat → Bool) (task q i m : Nat) (Q : List Nat) (bm fr : Nat → Int) : Prop where
  out : Out L K H task q Q bm fr
  at_ : Q[q]? = some i
  past : ∀ p : Nat, p < m → ta L i ≤ p → bm p ≠ 0 ∨ H i p = true
/-- the minute m is found for i, and is full; the tasks before j that have it are found -/
structure Inn (L : List (Int × Int × Int)) (K : Int) (H : Nat → Nat → Bool) (task q i m j : Nat) (Q : List Nat) (bm fr : Nat → Int) : Prop where
  bf : Bf L H task Q bm fr
  bmm : bm m = (i : Int) + 1
  hm : m < 100
  shut : ∀ p, p < 100 → p ≠ m → bm p ≠ 0 → K ≤ colS L.length H p ∧ ∀ j, j < L.length → H j p = true → j ∈ Q
  full : K ≤ colS L.length H m
  fnd : ∀ p, p < j → p < L.length → H p m = true → p ∈ Q
  gone : ∀ a ∈ Q.take q, Gone L H bm a
  at_ : Q[q]? = some i
  past : ∀ p : Nat, p < m → ta L i ≤ p → bm p ≠ 0 ∨ H i p = true
section
variable {L : List (Int × Int × Int)} {K : Int} {H : Nat → Nat → Bool} {task q i m j : Nat} {Q : List Nat} {bm fr : Nat → Int}
theorem Out.start (h : task < L.length) : Out L K H task 0 [task] (fun _ => 0) (fun _ => 0) := ⟨Bf.start h _, fun _ _ h => absurd rfl h, fun a h => by simp at h⟩
theorem Out.mid (h : Out L K H task q Q bm fr) (hi : Q[q]? = some i) (h0 : 0 ≤ ta L i) : Mid L K H task q i (ta L i).toNat Q bm fr := ⟨h, hi, fun p h1 h2 => by omega⟩
theorem Mid.mem (h : Mid L K H task q i m Q bm fr) : i ∈ Q := List.mem_of_getElem? h.at_
theorem Mid.skip (h : Mid L K H task q i m Q bm fr) (hs : bm m ≠ 0 ∨ H i m = true) : Mid L K H task q i (m + 1) Q bm fr := ⟨h.out, h.at_, fun p h1 h2 => by
  rcases Nat.lt_succ_iff_lt_or_eq.1 h1 with h3 | rfl
  · exact h.past p h3 h2
  · exact hs⟩
theorem updF_nz {f : Nat → Int} {m : Nat} {x : Int} (hx : x ≠ 0) {p : Nat} (h : f p ≠ 0) : updF f m x p ≠ 0 := by unfold updF; split <;> assumption
theorem Mid.inn (h : Mid L K H task q i m Q bm fr) (hm : m < 100) (h0 : bm m = 0) (hH : H i m = false) (h1 : ta L i ≤ m) (h2 : (m : Int) < tb L i) (hf : K ≤ colS L.length H m) : Inn L K H task q i m 0 Q (updF bm m ((i : Int) + 1)) fr := by
  refine ⟨h.out.bf.minute h.mem hm h0 hH h1 h2, updF_same _ _ _, hm, fun p hp hne hb => ?_, hf, fun p hp => by omega, fun a ha p h3 h4 h5 => ?_, h.at_, fun p h3 h4 => ?_⟩
  · rw [updF_other hne] at hb; exact h.out.shut p hp hb
  · exact (h.out.gone a ha p h3 h4 h5).imp (updF_nz (by omega)) id
  · exact (h.past p h3 h4).imp (updF_nz (by omega)) id
theorem Inn.skip (h : Inn L K H task q i m j Q bm fr) (hs : H j m = true → j ∈ Q) : Inn L K H task q i m (j + 1) Q bm fr := ⟨h.bf, h.bmm, h.hm, h.shut, h.full, fun p h1 h2 h3 => by
  rcases Nat.lt_succ_iff_lt_or_eq.1 h1 with h4 | rfl
  · exact h.fnd p h4 h2 h3
  · exact hs h3, h.gone, h.at_, h.past⟩
theorem Inn.qlt (h : Inn L K H task q i m j Q bm fr) : q < Q.length := by
  have := h.at_
  rw [List.getElem?_eq_some_iff] at this
  exact this.1
theorem Inn.mem (h : Inn L K H task q i m j Q bm fr) : i ∈ Q := List.mem_of_getElem? h.at_
theorem Inn.put (h : Inn L K H task q i m j Q bm fr) (hj : j < L.length) (hH : H j m = true) (hn : j ∉ Q) : Inn L K H task q i m (j + 1) (Q ++ [j]) bm (updF fr j ((m : Int) + 1)) := by
  refine ⟨h.bf.task_ h.mem h.hm h.bmm hj hH hn, h.bmm, h.hm, fun p hp hne hb => ?_, h.full, fun p h1 h2 h3 => ?_, ?_, ?_, h.past⟩
  · exact ⟨(h.shut p hp hne hb).1, fun a ha hH => List.mem_append_left _ ((h.shut p hp hne hb).2 a ha hH)⟩
  · rcases Nat.lt_succ_iff_lt_or_eq.1 h1 with h4 | rfl
    · exact List.mem_append_left _ (h.fnd p h4 h2 h3)
    · simp
  · rw [List.take_append_of_le_length (Nat.le_of_lt h.qlt)]; exact h.gone
  · rw [List.getElem?_append_left h.qlt]; exact h.at_
theorem Inn.done (h : Inn L K H task q i m L.length Q bm fr) : Mid L K H task q i (m + 1) Q bm fr := by
  refine ⟨⟨h.bf, fun p hp hb => ?_, h.gone⟩, h.at_, fun p h1 h2 => ?_⟩
  · by_cases e : p = m
    · subst e; exact ⟨h.full, fun a ha hH => h.fnd a ha ha hH⟩
    · exact h.shut p hp e hb
  · rcases Nat.lt_succ_iff_lt_or_eq.1 h1 with h3 | rfl
    · exact h.past p h3 h2
    · exact .inl (by rw [h.bmm]; omega)
theorem Mid.done (h : Mid L K H task q i m Q bm fr) (hm : tb L i ≤ m) : Out L K H task (q + 1) Q bm fr := by
  refine ⟨h.out.bf, h.out.shut, fun a ha => ?_⟩
  rw [List.take_add_one, h.at_] at ha
  rcases List.mem_append.1 ha with ha | ha
  · exact h.out.gone a ha
  · have : a = i := by simpa using ha
    subst this
    exact fun p _ h1 h2 => h.past p (by omega) h1
theorem Out.fail (h : Out L K H task Q.length Q bm fr) (hle : ∀ j, j < L.length → rowS H j ≤ tc L j) (hlt : rowS H task < tc L task) : sevB L K = false := by
  refine sevB_no.2 (bf_fail hle h.bf hlt h.shut (fun a ha => h.gone a (by rw [List.take_length]; exact ha)))
end

theorem own_one {W : World} {B g : Nat} {x : Int} (h : Box W g 3 #[.int .i64 x]) (hg : B ≤ g) : OwnI W B 3 (.slice (some ⟨g, 0, none⟩) 1 1) [x] :=
  ⟨rfl, .inr ⟨g, 1, #[.int .i64 x], rfl, hg, h, Nat.le_refl _, by unfold maxLen; omega, rfl, rfl⟩⟩
noncomputable abbrev put4 (W : World) (task : Nat) : World := (((W.alloc (.cells Try.zeroCells68 68)).alloc (.cells #[.int .i64 0, .int .i64 0, .int .i64 0, .int .i64 0, .int .i64 0, .int .i64 0, .int .i64 0, .int .i64 0, .int .i64 0, .int .i64 0, .int .i64 0, .int .i64 0] 104)).alloc (.cells #[.int .i64 task] 3)).alloc (.cells #[.bool false, .bool false, .bool false, .bool false, .bool false, .bool false, .bool false, .bool false, .bool false, .bool false, .bool false, .bool false] 105)
theorem zeroBy : Try.zeroCells68 = ((List.replicate 100 (Value.int .i64 0))).toArray := by kernel_rfl
theorem by_at (N m : Nat) (hm : m < N) : ((List.replicate N (Value.int .i64 0)).toArray)[m]? = some (.int .i64 0) := by simp [hm]
theorem zI : (#[.int .i64 0, .int .i64 0, .int .i64 0, .int .i64 0, .int .i64 0, .int .i64 0, .int .i64 0, .int .i64 0, .int .i64 0, .int .i64 0, .int .i64 0, .int .i64 0] : Array Value) = (List.replicate 12 (Value.int .i64 0)).toArray := rfl
theorem zB : (#[.bool false, .bool false, .bool false, .bool false, .bool false, .bool false, .bool false, .bool false, .bool false, .bool false, .bool false, .bool false] : Array Value) = (List.replicate 12 (Value.bool false)).toArray := rfl
theorem fnd_at (N m : Nat) (hm : m < N) : ((List.replicate N (Value.bool false)).toArray)[m]? = some (.bool false) := by simp [hm]
theorem put4_size (W : World) (task : Nat) : (put4 W task).heap.size = W.heap.size + 4 := by simp
theorem put4_below (W : World) (task : Nat) : Below W.heap.size W (put4 W task) := (((below_alloc W _).alloc (by simp) _).alloc (by simp; omega) _).alloc (by simp; omega) _
theorem put4_fnd {W : World} {task : Nat} : CellsR (W.heap.size + 1 + 1 + 1) 12 (fun _ => .bool false) (put4 W task) := by
  have h := Box.new (((W.alloc (.cells Try.zeroCells68 68)).alloc (.cells #[.int .i64 0, .int .i64 0, .int .i64 0, .int .i64 0, .int .i64 0, .int .i64 0, .int .i64 0, .int .i64 0, .int .i64 0, .int .i64 0, .int .i64 0, .int .i64 0] 104)).alloc (.cells #[.int .i64 task] 3)) 105 #[.bool false, .bool false, .bool false, .bool false, .bool false, .bool false, .bool false, .bool false, .bool false, .bool false, .bool false, .bool false]
  have e : (((W.alloc (.cells Try.zeroCells68 68)).alloc (.cells #[.int .i64 0, .int .i64 0, .int .i64 0, .int .i64 0, .int .i64 0, .int .i64 0, .int .i64 0, .int .i64 0, .int .i64 0, .int .i64 0, .int .i64 0, .int .i64 0] 104)).alloc (.cells #[.int .i64 task] 3)).heap.size = W.heap.size + 1 + 1 + 1 := by simp
  rw [e] at h
  exact CellsR.of_box h _ (fun q hq => by rw [zB]; exact fnd_at 12 q hq)
theorem put4_start {hb ub : Nat} {H : Nat → Nat → Bool} {U : Nat → Int} {W : World} {task : Nat} (ht : task < 12) (hH : CellsR hb 1200 (hasF H) W) (hU : CellsR ub 100 (intF U) W) :
    PtR hb ub W.heap.size H U [task] (fun _ => 0) (fun _ => 0) (.slice (some ⟨W.heap.size + 1 + 1, 0, none⟩) 1 1) ((put4 W task).setCell ⟨W.heap.size + 1 + 1 + 1, task, none⟩ (.bool true)) := by
  have hB := put4_below W task
  have hl1 := hH.lt (by omega)
  have hl2 := hU.lt (by omega)
  have b0 := Box.new W 68 Try.zeroCells68
  have b1 := Box.new (W.alloc (.cells Try.zeroCells68 68)) 104 #[.int .i64 0, .int .i64 0, .int .i64 0, .int .i64 0, .int .i64 0, .int .i64 0, .int .i64 0, .int .i64 0, .int .i64 0, .int .i64 0, .int .i64 0, .int .i64 0]
  have b2 := Box.new ((W.alloc (.cells Try.zeroCells68 68)).alloc (.cells #[.int .i64 0, .int .i64 0, .int .i64 0, .int .i64 0, .int .i64 0, .int .i64 0, .int .i64 0, .int .i64 0, .int .i64 0, .int .i64 0, .int .i64 0, .int .i64 0] 104)) 3 #[.int .i64 task]
  have e1 : (W.alloc (.cells Try.zeroCells68 68)).heap.size = W.heap.size + 1 := by simp
  have e2 : ((W.alloc (.cells Try.zeroCells68 68)).alloc (.cells #[.int .i64 0, .int .i64 0, .int .i64 0, .int .i64 0, .int .i64 0, .int .i64 0, .int .i64 0, .int .i64 0, .int .i64 0, .int .i64 0, .int .i64 0, .int .i64 0] 104)).heap.size = W.heap.size + 1 + 1 := by simp
  rw [e1] at b1
  rw [e2] at b2
  refine ⟨(hH.keep hB hl1).far (by show hb ≠ W.heap.size + 1 + 1 + 1; omega) _, (hU.keep hB hl2).far (by show ub ≠ W.heap.size + 1 + 1 + 1; omega) _, ?_, ?_, ?_, ?_, by simp [Value.ownBlock]⟩
  · exact (CellsR.of_box (((b0.alloc _).alloc _).alloc _) _ (fun q hq => by rw [zeroBy]; exact by_at 100 q hq)).far (by show W.heap.size ≠ W.heap.size + 1 + 1 + 1; omega) _
  · exact (CellsR.of_box ((b1.alloc _).alloc _) _ (fun q hq => by rw [zI]; exact by_at 12 q hq)).far (by show W.heap.size + 1 ≠ W.heap.size + 1 + 1 + 1; omega) _
  · refine (put4_fnd.set_ ht _).congr (fun q hq => ?_)
    unfold inF
    by_cases e : q = task
    · rw [if_pos e, decide_eq_true (by simp [e])]
    · rw [if_neg e, decide_eq_false (by simp [e])]
  · exact queue_far (Q := [task]) (own_one (b2.alloc _) (by omega)) (by simp [Value.ownBlock])
end Go.Proofs.Ytdafiblnanpiiaa
