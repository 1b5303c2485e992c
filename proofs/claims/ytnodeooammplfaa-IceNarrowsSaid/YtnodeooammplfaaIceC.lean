/- Walks over package ice: the column of losses, by whatever closure gives the Dim of a layer. -/
import Derived.Test.YtnodeooammplfaaIceB
import Derived.Deep.RegionLaw
namespace Go.Proofs.Ytnodeooammplfaa
set_option linter.unusedVariables false
open Go.RowKit

/-- what is asked of a closure that gives a number for a place -/
def Gives (g : Nat) (lb : Array Value) (f : Nat → Int) (n : Nat) (w : World) : Prop :=
  ∀ (W : World) (k : Nat), k < n → Below w.heap.size w W → Calls Try.prog g (#[.int .i64 k] ++ lb) W fun e w' => e = .returned (.int .i64 (f k)) ∧ w' = W

theorem cum_part_snoc (L : List (Int × Int)) (i j : Nat) : cum (part L i j) ++ [(part L i j).sum + pb L i] = cum (part L i (j + 1)) := by
  rw [← cum_snoc]
  unfold part
  rw [part_snoc]
theorem part_mem {L : List (Int × Int)} (h : okL L) (i j : Nat) (hi : i < L.length) : ∀ d ∈ part L i j, 0 ≤ d ∧ d ≤ 100 := by
  intro d hd
  simp only [part, List.mem_append] at hd
  rcases hd with hd | hd
  · exact mets_mem (okL_take h i) d hd
  · have := h.2 i hi
    have := List.eq_of_mem_replicate hd
    omega

set_option maxRecDepth 100000 in
set_option maxHeartbeats 600000 in
theorem stack_any (g : Nat) (lb : Array Value) (A : Option Addr) (c : Nat) (L E : List (Int × Int)) (w : World) (hr : RdP w w.heap.size A L) (hok : okL E) (hlen : E.length = L.length) (hth : ∀ k, k < L.length → pa E k = pa L k)
    (eg : ∀ args w, (callFunc g args).run Try.prog w = .ok (.enter g args) w) (hp : Gives g lb (pb E) L.length w) :
    Calls Try.prog 101 #[.slice A L.length c, .func (.func g) #[] lb] w fun e w' => Below w.heap.size w w' ∧ ∃ A' c', e = .returned (.slice A' (cum (mets E)).length c') ∧ RdI w' w'.heap.size A' (cum (mets E)) := by
  have HR := Lib.hid hr; clear hr
  have HO := Lib.hid hok
  have hn20 := hok.1
  clear hok
  have HP := Lib.hid hp; clear hp
  have HTH := Lib.hid hth; clear hth
  have HF : Hid (∀ (v : Value) (w' : World), OwnI w' w.heap.size 3 v (cum (mets E)) → Below w.heap.size w w' → Below w.heap.size w w' ∧ ∃ A' c', Ending.returned v = .returned (.slice A' (cum (mets E)).length c') ∧ RdI w' w'.heap.size A' (cum (mets E))) := by
    intro v w' h hb
    obtain ⟨A', c', rfl, h'⟩ := h.rd
    exact ⟨hb, A', c', rfl, h'⟩
  rw [hlen] at hn20
  generalize hn : L.length = n at *
  have HN := Lib.hid hn; clear hn
  have HE := Lib.hid hlen; clear hlen
  go_enter Try.func101, Try.ntmps101
  go_wp2
  go_loopg [5, 11] n (fun k v s wr => ∃ i : Nat, s = .int .i64 i ∧ i ≤ n ∧ n - i ≤ k ∧ Below w.heap.size w wr ∧ OwnI wr w.heap.size 3 v (cum (mets (E.take i))))
  case atStart =>
    refine ⟨0, rfl, by omega, by omega, below_alloc _ _, ?_⟩
    show World.ownsRow _ _ _ _ _ _ _
    exact World.ownsRow_lit w #[.int .i64 0] 1 (Nat.le_refl _) (by decide) rfl
  case round =>
    obtain ⟨i, rfl, hi, hk, hB, hO⟩ := hrel
    by_cases hlt : i < n
    · obtain ⟨b, o, rfl, hb, c1, c2⟩ := HR.out.at_ (k := i) (by rw [HN.out]; exact hlt)
      have hbd := HO.out.2 i (by rw [HE.out]; exact hlt)
      rw [← HTH.out i hlt] at c1
      obtain ⟨t, ht⟩ := Int.eq_ofNat_of_zero_le hbd.1
      rw [ht] at c1
      have ht30 : t ≤ 30 := by omega
      have HT := Lib.hid ht; clear ht
      have hd0 : 0 ≤ pb E i := by omega
      have hd100 : pb E i ≤ 100 := by omega
      clear hbd
      rw [← hB.cell hb] at c1 c2
      go_wp2
      clear c1 c2
      have hB1 := hB.trans ((below_alloc wr (.cells #[.int .i64 t, .int .i64 (pb L i)] 55)).mono hB.size)
      have hO1 := hO.kept (below_alloc wr (.cells #[.int .i64 t, .int .i64 (pb L i)] 55))
      clear hO
      go_loopg [5, 18] t (fun k v s wq => ∃ j : Nat, s = .int .i64 j ∧ j ≤ t ∧ t - j ≤ k ∧ Below w.heap.size w wq ∧ OwnI wq w.heap.size 3 v (cum (part E i j)))
      case atStart => exact ⟨0, rfl, by omega, by omega, hB1, by rw [part_zero]; exact hO1⟩
      case round =>
        obtain ⟨j, rfl, hj, hk2, hB2, hO2⟩ := hrel
        by_cases hjt : j < t
        · have hlen2 : (part E i j).length ≤ 600 := part_len HO.out i j (by rw [HE.out]; exact hlt) (by rw [HT.out]; omega)
          have hsum := sum_bounds (part E i j) (part_mem HO.out i j (by rw [HE.out]; exact hlt))
          have hsn := cum_part_snoc E i j
          have HS := Lib.hid hsn; clear hsn
          have hl1 := cum_length (part E i j)
          have hlast := ix_cum_last (part E i j)
          generalize part E i j = l at *
          generalize cum l = cl at *
          rcases hO2.form with ⟨rfl, rfl⟩ | ⟨g2, c2, rfl, hg1, hg2, _, _, hcells, _⟩
          · simp at hl1
          have hc := hcells l.length (by omega)
          rw [hlast] at hc
          rw [hl1] at hO2 ⊢
          have hb2 : l.length ≤ 600 := hlen2
          have hcl : cl.length ≤ 601 := by omega
          have hcl2 : l.length < cl.length := by omega
          clear hlen2 hl1 hlast hcells
          have hw1 : IntKind.i64.wrap (l.length : Int) = (l.length : Int) := IntWalk.i64_in _ (by omega)
          have hw2 : IntKind.i64.wrap (l.sum + pb E i) = l.sum + pb E i := IntWalk.i64_in _ (by omega)
          have hlt1 : (l.length : Int) < (l.length : Int) + 1 := by omega
          have hlt0 : (0 : Int) ≤ (l.length : Int) := by omega
          go_wp2
          go_region_held3 (fun w' => w'.cell? ⟨g2, l.length, none⟩ = some (.int .i64 l.sum)) (first | go_keep | (rw [hS3.old _ _ rfl (by omega)]; first | assumption | go_keep)) (first
            | (go_at_fn g; refine (HP.out _ i hlt hB2.drew).mono ?_; rintro e w' ⟨rfl, rfl⟩)
            | (refine step_app_int 67 rfl (.tmp 20) (.tmp 31) rfl Try.underlying67 infoInt _ w.heap.size wr.heap.size _ cl (l.sum + pb E i) rfl rfl (hO2.kept (below_alloc wr _).drew) (Box.new wr _ _) (by omega) (by simp; have := hB2.size; omega) ?_; intro v' w' hO3 hB3 hS3))
          go_wp2
          go_roundg (t - (j + 1))
          case measure => omega
          case rel => exact ⟨j + 1, by go_num, by omega, by omega, hB2.trans (((below_alloc wr _).drew.mono hB2.size).trans hB3), by rw [← HS.out]; exact hO3⟩
        · obtain rfl : j = t := by omega
          go_wp2
          go_roundg (n - (i + 1))
          case measure => omega
          case rel => exact ⟨i + 1, by go_num, by omega, by omega, hB2, by
            rw [← part_end i (by rw [HE.out]; exact hlt) j HT.out.symm]
            exact hO2⟩
    · obtain rfl : i = n := by omega
      go_wp2
      go_ret
      have hO' := hO
      rw [List.take_of_length_le (by rw [HE.out]; exact Nat.le_refl _)] at hO'
      exact HF.out _ _ hO' hB

theorem gate_ok {v r : Bool} (hv : v = true) (hr : r = true) : gate v r = 0 := by subst hv; subst hr; rfl
theorem gate_bad {v r : Bool} (hv : v = false) : gate v r = 40 := by subst hv; rfl
theorem gate_arg {v r : Bool} (hv : v = true) (hr : r = false) : gate v r = 2 := by subst hv; subst hr; rfl

theorem open1_any (A : Option Addr) (c b0 : Nat) (L : List (Int × Int)) (k : Nat) (w : World) (hk : k < L.length) (hc : w.cell? ⟨b0, 0, none⟩ = some (.slice A L.length c)) (hr : RdP w w.heap.size A L) :
    Calls Try.prog 102 #[.int .i64 k, .pointer (some ⟨b0, 0, none⟩)] w fun e w' => e = .returned (.int .i64 (pb L k)) ∧ w' = w := by
  obtain ⟨b, o, rfl, hb, c1, c2⟩ := hr.at_ hk
  clear hr
  generalize L.length = n at *
  go_enter Try.func102, Try.ntmps102
  go_wp2
  go_ret
  exact ⟨rfl, rfl⟩

/-- the column of ice, or the error -/
def OpenPost (L : List (Int × Int)) (w : World) (e : Ending) (w' : World) : Prop :=
  Below w.heap.size w w' ∧ ((vld L = false ∧ e = .returned (.tuple #[.slice none 0 0, .int .i64 40])) ∨
    (vld L = true ∧ ∃ A c, e = .returned (.tuple #[.slice A (cum (mets L)).length c, .int .i64 0]) ∧ RdI w' w'.heap.size A (cum (mets L))))

theorem open_any (A : Option Addr) (c : Nat) (L : List (Int × Int)) (w : World) (hr : RdP w w.heap.size A L) (hl : L.length ≤ 1125899906842624) :
    Calls Try.prog 59 #[.slice A L.length c] w (OpenPost L w) := by
  have hr1 := hr.on (below_alloc w (.cells #[.slice A L.length c] 22))
  have HV := Lib.hid (Valid_any A c L (w.alloc (.cells #[.slice A L.length c] 22)) hr1 hl)
  cases hv : vld L
  · have HV2 := Lib.hid hv
    rw [hv] at HV
    have HE : Hid (∀ w', Below w.heap.size w w' → OpenPost L w (.returned (.tuple #[.slice none 0 0, .int .i64 40])) w') := fun w' hb => ⟨hb, .inl ⟨hv, rfl⟩⟩
    clear hv hr hr1
    generalize L.length = n at *
    go_enter Try.func59, Try.ntmps59
    go_wp2_with (go_at_call 20; refine HV.out.mono ?_; rintro e w' ⟨rfl, hB⟩)
    go_ret2
    exact HE.out _ ((below_alloc _ _).trs hB)
  · have HS : Hid (∀ W : World, Below (w.alloc (.cells #[.slice A L.length c] 22)).heap.size (w.alloc (.cells #[.slice A L.length c] 22)) W → Calls Try.prog 101 #[.slice A L.length c, .func (.func 102) #[] #[.pointer (some ⟨w.heap.size, 0, none⟩)]] W fun e w' => Below W.heap.size W w' ∧ ∃ A' c', e = .returned (.slice A' (cum (mets L)).length c') ∧ RdI w' w'.heap.size A' (cum (mets L))) := by
      intro W hB
      refine stack_any 102 _ A c L L W (hr1.on hB) (okL_of_vld hv) rfl (fun _ _ => rfl) (enters_of Try.func102 (by kernel_rfl) rfl) ?_
      intro W' k hk hB'
      refine open1_any A c w.heap.size L k W' hk ?_ ((hr1.on hB).on hB')
      rw [(hB.trs hB').cell (p := ⟨w.heap.size, 0, none⟩) (by simp)]
      exact cell_one _ _ _
    have HE : Hid (∀ A' c' w', Below w.heap.size w w' → RdI w' w'.heap.size A' (cum (mets L)) → OpenPost L w (.returned (.tuple #[.slice A' (cum (mets L)).length c', .int .i64 0])) w') := fun A' c' w' hb h => ⟨hb, .inr ⟨hv, A', c', rfl, h⟩⟩
    rw [hv] at HV
    clear hv hr hr1
    generalize L.length = n at *
    generalize (cum (mets L)).length = m at *
    go_enter Try.func59, Try.ntmps59
    go_wp2_with (first
      | (go_at_call 20; refine HV.out.mono ?_; rintro e w1 ⟨rfl, hB⟩; have hB1 := bcell hB)
      | (go_at_call 101; refine (HS.out _ hB).mono ?_; rintro e w2 ⟨hB2, A', c', rfl, hR⟩))
    go_ret2
    exact HE.out _ _ _ (((below_alloc _ _).trs hB).trs hB2) hR
end Go.Proofs.Ytnodeooammplfaa
