/- Walks over package sky: the regions of sets. -/
import Derived.Test.YtgbpmleipdecgaaSkyCk
import Derived.Great.BuildSlice
namespace Go.Proofs.Ytgbpmleipdecgaa
open Go.RowKit
set_option linter.unusedSimpArgs false
set_option linter.unusedVariables false

/-- lists of cells, one behind the other -/
def RdLC (w : World) (B : Nat) (A : Option Addr) (Ls : List (List (Int × Int))) : Prop :=
  Ls = [] ∨ ∃ b o, A = some ⟨b, o, none⟩ ∧ b < B ∧ ∀ k, k < Ls.length → ∃ A' c', w.cell? ⟨b, o + k, none⟩ = some (.slice A' (Ls.getD k []).length c') ∧ RdP w B A' (Ls.getD k [])
theorem RdLC.keep {w w' : World} {B : Nat} {A : Option Addr} {Ls : List (List (Int × Int))} (h : RdLC w B A Ls) (hb : Below B w w') : RdLC w' B A Ls := by
  rcases h with h | ⟨b, o, h1, h2, h3⟩
  · exact .inl h
  · refine .inr ⟨b, o, h1, h2, fun k hk => ?_⟩
    obtain ⟨A', c', h4, h5⟩ := h3 k hk
    exact ⟨A', c', (hb.cell (p := ⟨b, o + k, none⟩) h2).trans h4, h5.keep hb⟩
theorem RdLC.at_ {w : World} {B : Nat} {A : Option Addr} {Ls : List (List (Int × Int))} (h : RdLC w B A Ls) {k : Nat} (hk : k < Ls.length) :
    ∃ b o A' c', A = some ⟨b, o, none⟩ ∧ b < B ∧ w.cell? ⟨b, o + k, none⟩ = some (.slice A' (Ls.getD k []).length c') ∧ RdP w B A' (Ls.getD k []) := by
  rcases h with rfl | ⟨b, o, h1, h2, h3⟩
  · simp at hk
  · obtain ⟨A', c', h4, h5⟩ := h3 k hk
    exact ⟨b, o, A', c', h1, h2, h4, h5⟩
/-- the words of regions, one behind the other -/
def cellsR (Us : List Px) : List Value := Us.flatMap fun U => (rgA U).toList
theorem cellsR_length (Us : List Px) : (cellsR Us).length = Us.length * 48 := by
  induction Us with
  | nil => rfl
  | cons U Us ih => simp only [cellsR, List.flatMap_cons, List.length_append, List.length_cons, Array.length_toList, rgA_size] at *; rw [ih]; omega
theorem cellsR_get (Us : List Px) (k i : Nat) (hk : k < Us.length) (hi : i < 48) : (cellsR Us)[k * 48 + i]? = some (.int .u64 (wd (Us.getD k (fun _ => false)) i : Int)) := by
  induction Us generalizing k with
  | nil => simp at hk
  | cons U Us ih =>
    have hl : (rgA U).toList.length = 48 := by rw [Array.length_toList, rgA_size]
    simp only [cellsR, List.flatMap_cons]
    cases k with
    | zero =>
      rw [Nat.zero_mul, Nat.zero_add, List.getElem?_append_left (by omega)]
      have := rgA_get U hi
      simpa using this
    | succ k =>
      rw [List.getElem?_append_right (by omega), hl, show (k + 1) * 48 + i - 48 = k * 48 + i by omega]
      exact ih k (by simpa using hk)
def OwnR (w : World) (B : Nat) (v : Value) (Us : List Px) : Prop := w.ownsRow B 81 48 v Us.length (cellsR Us)
theorem OwnR.kept {w w' : World} {B : Nat} {v : Value} {Us : List Px} (h : OwnR w B v Us) (hb : Below w.heap.size w w') : OwnR w' B v Us := by
  have h' : w.ownsRow B 81 48 v Us.length (cellsR Us) := h
  exact h'.kept (row := none) ⟨hb.os, hb.tape, hb.output, hb.size, fun k hk _ => hb.block k hk⟩ (by cases v.ownBlock <;> simp)
/-- regions that can be read -/
def RdR (w : World) (B : Nat) (A : Option Addr) (Us : List Px) : Prop :=
  Us = [] ∨ ∃ b, A = some ⟨b, 0, none⟩ ∧ b < B ∧ ∀ k i, k < Us.length → i < 48 → w.cell? ⟨b, k * 48 + i, none⟩ = some (.int .u64 (wd (Us.getD k (fun _ => false)) i : Int))
theorem RdR.keep {w w' : World} {B : Nat} {A : Option Addr} {Us : List Px} (h : RdR w B A Us) (hb : Below B w w') : RdR w' B A Us := by
  rcases h with h | ⟨b, h1, h2, h3⟩
  · exact .inl h
  · exact .inr ⟨b, h1, h2, fun k i hk hi => (hb.cell (p := ⟨b, k * 48 + i, none⟩) h2).trans (h3 k i hk hi)⟩
theorem RdR.on {w w' : World} {A : Option Addr} {Us : List Px} (h : RdR w w.heap.size A Us) (hb : Below w.heap.size w w') : RdR w' w'.heap.size A Us := by
  rcases h.keep hb with h | ⟨b, h1, h2, h3⟩
  · exact .inl h
  · exact .inr ⟨b, h1, Nat.lt_of_lt_of_le h2 hb.size, h3⟩
theorem OwnR.rd {w : World} {B : Nat} {v : Value} {Us : List Px} (h : OwnR w B v Us) : ∃ A c, v = .slice A Us.length c ∧ RdR w w.heap.size A Us := by
  have h' : w.ownsRow B 81 48 v Us.length (cellsR Us) := h
  rcases h'.2 with ⟨rfl, h2⟩ | ⟨g, cap, cur, rfl, hb, hg, hc, hm, hs, ht⟩
  · have := List.eq_nil_of_length_eq_zero h2
    subst this
    exact ⟨none, 0, rfl, .inl rfl⟩
  · refine ⟨_, cap, rfl, .inr ⟨g, rfl, (Array.getElem?_eq_some_iff.1 hg).1, fun k i hk hi => ?_⟩⟩
    rw [h'.cellAt (k * 48 + i) (by omega)]
    exact cellsR_get Us k i hk hi
theorem infoReg3 : (Try.prog.info? 81).map (fun i => (i.zero, i.size, i.bytes)) = some (some (.agg (rgA fun _ => false)), 48, 384) := by
  rw [← rgA_none]; kernel_rfl
theorem info_parts3 {P : Program} {e : TypeId} {z : Value} {s b : Nat} (h : (P.info? e).map (fun i => (i.zero, i.size, i.bytes)) = some (some z, s, b)) : ∃ i, P.info? e = some i ∧ i.zero = some z ∧ i.size = s ∧ i.bytes = b := by
  cases hi : P.info? e with
  | none => rw [hi] at h; cases h
  | some i => rw [hi] at h; simp at h; exact ⟨i, rfl, h.1, h.2.1, h.2.2⟩
theorem fill_reg (V Z : Array Value) (hV : V.size = 48) (hZ : Z.size = 48) (n : Nat) (hn : n = 48) : Instr.fill (fun i => some (i * n, n)) ((Array.range (1 * n)).map (Z[· % Z.size]!)) [(0, .agg V)] = some V := by
  subst hn
  have h := Go.Great.fill_whole (s := 48) (by omega) [.agg V] ((Array.range (1 * 48)).map (Z[· % Z.size]!)) (by simp [Value.cells, hV]) (by simp)
  have e : ([Value.agg V].flatMap fun v => v.cells.toList).toArray = V := by simp [Value.cells]
  rw [e] at h
  exact h
/-- []region{r} -/
theorem wpList_reg_lit {ops : Array Oper} {rest : List Oper} {o : Oper} {a : Act} {w : World} {Q : Exit → Act → World → Prop} (hg : o.guard = none) (x : Operand) (ho : o.op = .buildSlice 84 1 #[(0, x)])
    (U : Px) (hx : a.eval x = .agg (rgA U)) (h : wpList Try.prog ops Q rest (a.put o.dst (.slice (some ⟨w.heap.size, 0, none⟩) 1 1)) (w.alloc (.cells (rgA U) 81))) : wpList Try.prog ops Q (o :: rest) a w := by
  obtain ⟨i, hi, hz, hs, hb⟩ := info_parts3 infoReg3
  refine wpList_buildSlice hg 84 81 1 #[(0, x)] ho (rgA U) i _ Try.underlying84 hi hz (by rw [hs]; decide) (by rw [hs]; decide) ?_ h
  simp only [List.map_toArray, List.map_cons, List.map_nil, hx]
  exact fill_reg (rgA U) (rgA fun _ => false) (rgA_size _) (rgA_size _) i.size hs
theorem BoxR.cellAny {w : World} {g : Nat} {S : Px} (h : BoxR w g S) (i : Nat) : w.cell? ⟨g, i, none⟩ = (rgA S)[i]? := Box.cell h i
/-- 'append(out, r)' of a region -/
theorem wp_app_reg {ops : Array Oper} {rest : List Oper} {o : Oper} {a : Act} {Q : Exit → Act → World → Prop} (hgd : o.guard = none) (s x : Operand) (ho : o.op = .call { callee := .builtin .append, args := #[s, x], argTypes := #[84, 84] })
    (W : World) (B nb : Nat) (v : Value) (Us : List Px) (U : Px) (hs : a.eval s = v) (hx : a.eval x = .slice (some ⟨nb, 0, none⟩) 1 1) (hown : OwnR W B v Us) (hbx : BoxR W nb U) (hlen : Us.length ≤ 1000) (hB : B ≤ W.heap.size)
    (h : ∀ v' w', OwnR w' B v' (Us ++ [U]) → Below B W w' → wpList Try.prog ops Q rest (a.put o.dst v') w') : wpList Try.prog ops Q (o :: rest) a W := by
  obtain ⟨i0, hi, hz0, hz1, hz2⟩ := info_parts3 infoReg3
  refine wpList_plain hgd fun K hK => wp_append_fresh W s x 84 ho B 81 i0 (.agg (rgA fun _ => false)) 48 384 Try.underlying84 hi hz0 hz1 hz2 (rgA_size _) (by decide) v Us.length _ hs hown ⟨nb, 0, none⟩ 1 1 (rgA U).toList hx (by rw [Array.length_toList, rgA_size]) ?_ ?_ (by unfold maxLen; omega) (by omega) hB ?_
  · intro j u hu
    rw [Addr.add_lit, Nat.zero_add, hbx.cellAny]
    simpa using hu
  · intro u hu
    have h1 := rgA_one U
    rw [Array.all_eq_true_iff_forall_mem] at h1
    exact h1 u (by simpa using hu)
  · intro v' w' h1 h2 h3
    refine hK _ _ (h v' w' ?_ ?_)
    · show w'.ownsRow B 81 48 v' (Us ++ [U]).length (cellsR (Us ++ [U]))
      simpa [cellsR] using h1
    · exact (Below.refl _ _).grown h2.by_ hB (fun k hk => (World.ownsRow.lt hown k hk).1)
/-- what regions returns -/
def RegQ (Ls : List (List (Int × Int))) (w : World) (e : Ending) (w' : World) : Prop :=
  Below w.heap.size w w' ∧ (((∃ l ∈ Ls, vldC l = false) ∧ e = .returned (.tuple #[.slice none 0 0, .int .i64 60])) ∨
    ((∀ l ∈ Ls, vldC l = true) ∧ ∃ A c, e = .returned (.tuple #[.slice A Ls.length c, .int .i64 0]) ∧ RdR w' w'.heap.size A (Ls.map uniP)))
theorem mem_at {Ls : List (List (Int × Int))} {k : Nat} (hk : k < Ls.length) : Ls.getD k [] ∈ Ls := by
  rw [List.getD_eq_getElem?_getD, List.getElem?_eq_getElem hk]; exact List.getElem_mem hk
theorem mem_all {Ls : List (List (Int × Int))} (h : ∀ k, k < Ls.length → vldC (Ls.getD k []) = true) : ∀ l ∈ Ls, vldC l = true := fun l hl => by
  obtain ⟨k, hk, rfl⟩ := List.getElem_of_mem hl
  have := h k hk
  rwa [List.getD_eq_getElem?_getD, List.getElem?_eq_getElem hk] at this
theorem uni_take {Ls : List (List (Int × Int))} {k : Nat} (hk : k < Ls.length) : (Ls.take k).map uniP ++ [uniP (Ls.getD k [])] = (Ls.take (k + 1)).map uniP := by
  rw [List.take_succ_eq_append_getElem hk, List.map_append]
  simp [hk]
set_option maxRecDepth 100000 in
set_option maxHeartbeats 4000000 in
theorem regions_any (A : Option Addr) (c : Nat) (Ls : List (List (Int × Int))) (w : World) (hr : RdLC w w.heap.size A Ls) (hl : Ls.length ≤ 2) (hls : ∀ l ∈ Ls, l.length ≤ 1000000) :
    Calls Try.prog 44 #[.slice A Ls.length c] w (RegQ Ls w) := by
  have HR := Lib.hid hr
  have HV := Lib.hid (fun k (hk : k < Ls.length) A' c' W hrd => Valid_any A' c' (Ls.getD k []) W hrd (hls _ (mem_at hk)))
  have HU := Lib.hid (fun k (hk : k < Ls.length) (hv : vldC (Ls.getD k []) = true) A' c' W hrd => union_any A' c' (Ls.getD k []) W hrd (hls _ (mem_at hk)) (badB_no (vldC_iff.1 hv).2.1))
  have HT := Lib.hid (fun k (hk : k < Ls.length) => uni_take hk)
  have HM := Lib.hid (fun k (hk : k < Ls.length) => mem_at hk)
  have HN : Hid (∀ k, k < Ls.length → vldC (Ls.getD k []) = false → ∀ W, Below w.heap.size w W → RegQ Ls w (.returned (.tuple #[.slice none 0 0, .int .i64 60])) W) := Lib.hid (fun k hk h W hW => ⟨hW, .inl ⟨⟨_, mem_at hk, h⟩, rfl⟩⟩)
  have HY : Hid ((∀ k, k < Ls.length → vldC (Ls.getD k []) = true) → ∀ W v, Below w.heap.size w W → OwnR W w.heap.size v ((Ls.take Ls.length).map uniP) → RegQ Ls w (.returned (.tuple #[v, .int .i64 0])) W) := Lib.hid (fun h W v hW ho => by
    rw [List.take_length] at ho
    obtain ⟨A', c', rfl, h2⟩ := ho.rd
    rw [List.length_map]
    exact ⟨hW, .inr ⟨mem_all h, A', c', rfl, h2⟩⟩)
  have HTL : Hid (∀ k, k ≤ Ls.length → ((Ls.take k).map uniP).length ≤ 2) := Lib.hid (fun k hk => by simp; omega)
  have HSZ := Lib.hid rgA_size
  have HAT := Lib.hid (fun k (hk : k < Ls.length) => hr.at_ hk)
  generalize RegQ Ls w = Q at *
  clear hr hls
  generalize Ls.length = n at *
  go_enter Try.func44, Try.ntmps44
  go_wp2
  go_loopg [4, 9] n (fun gk s t wr => ∃ k : Nat, t = .int .i64 k ∧ k ≤ n ∧ n - k ≤ gk ∧ Below w.heap.size w wr ∧ OwnR wr w.heap.size s ((Ls.take k).map uniP) ∧ Aside (∀ j, j < k → vldC (Ls.getD j []) = true))
  case atStart => exact ⟨0, rfl, by omega, by omega, Below.refl _ _, World.ownsRow_nil _ _ _ _, (fun j hj => absurd hj (Nat.not_lt_zero j) : ∀ j, j < 0 → vldC (Ls.getD j []) = true)⟩
  case round =>
    obtain ⟨k, rfl, hk, hgk, hB, hO, HA⟩ := hrel
    by_cases hlt : k < n
    · obtain ⟨b, o, A1, c1, rfl, hb, cc, hrd⟩ := HAT.out k hlt
      have hltI : (k : Int) < (n : Int) := by omega
      rw [← hB.cell hb] at cc
      have hrd' : ∀ W, Below w.heap.size w W → RdP W W.heap.size A1 (Ls.getD k []) := fun W hW => hrd.on hW
      have HRD := Lib.hid hrd'
      have HV1 := Lib.hid (fun W hrd => HV.out k hlt A1 c1 W hrd)
      have HU1 := Lib.hid (fun hv W hrd => HU.out k hlt hv A1 c1 W hrd)
      have HN1 := Lib.hid (HN.out k hlt)
      have HL := Lib.hid (And.intro hlt hgk)
      have HBB := Lib.hid (And.intro hB hO)
      have HTK := Lib.hid (HT.out k hlt)
      have HTT := Lib.hid (HTL.out k hk)
      have HVA := Lib.hid (fun (h : vldC (Ls.getD k []) = true) (j : Nat) (hj : j < k + 1) => (by
        rcases Nat.lt_succ_iff_lt_or_eq.1 hj with h1 | rfl
        · exact HA.out j h1
        · exact h : vldC (Ls.getD j []) = true))
      clear hB hO HA hrd hrd' HAT HR HV HU HN HY HM HT HTL
      generalize hlg : Ls.getD k [] = l at *
      cases hv : vldC l
      · have H0 := Lib.hid (HN1.out hv)
        rw [hv] at HV1
        clear HN1 HU1 hv
        generalize l.length = nl at *
        go_wp2_with (go_at_call 53; refine (HV1.out _ (HRD.out _ HBB.out.1)).mono ?_; rintro e w1 ⟨rfl, h1⟩)
        exact H0.out _ (HBB.out.1.trs h1)
      · have HUU := Lib.hid (HU1.out hv)
        have HVV := Lib.hid (HVA.out hv)
        rw [hv] at HV1
        clear HN1 HU1 HVA hv
        unfold rgV at *
        generalize uniP l = U at *
        generalize l.length = nl at *
        go_wp2_with (first
          | (go_at_call 53; refine (HV1.out _ (HRD.out _ HBB.out.1)).mono ?_; rintro e w1 ⟨rfl, h1⟩; have hB1 := HBB.out.1.trs h1)
          | (go_at_call 66; refine (HUU.out _ (HRD.out _ hB1)).mono ?_; rintro e w2 ⟨rfl, h2⟩; have hB2 := hB1.trs h2)
          | (refine wpList_reg_lit rfl (.tmp 18) rfl U rfl ?_)
          | (refine wp_app_reg rfl (.tmp 16) (.tmp 19) rfl _ w.heap.size w2.heap.size _ _ U rfl rfl (HBB.out.2.kept ((h1.trs h2).trs (below_alloc w2 (.cells (rgA U) 81)))) (BoxR.new _ _) (by have := HTT.out; omega) (by have := (hB2.trs (below_alloc w2 (.cells (rgA U) 81))).size; exact this) ?_; intro v6 w6 hO6 hB6))
        go_roundg (n - (k + 1))
        case measure => have := HL.out; omega
        case rel => exact ⟨k + 1, by go_num, by have := HL.out; omega, by have := HL.out; omega, (hB2.trs (below_alloc w2 (.cells (rgA U) 81))).trans hB6, by rw [← HTK.out]; exact hO6, HVV.out⟩
    · obtain rfl : k = n := by omega
      have H0 := Lib.hid (HY.out (fun j hj => HA.out j hj) wr _ hB hO)
      have hltI : ¬ (k : Int) < (k : Int) := by omega
      clear hB hO HA
      go_wp2
      exact H0.out
end Go.Proofs.Ytgbpmleipdecgaa
