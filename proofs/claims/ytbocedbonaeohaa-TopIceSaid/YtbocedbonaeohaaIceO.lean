/- Walks over package ice and its reference: Lamps and Dark. -/
import Derived.Test.YtbocedbonaeohaaIceN
import Derived.Test.YtbocedbonaeohaaLib3
namespace Go.Proofs.Ytbocedbonaeohaa
set_option linter.unusedVariables false
open Go.RowKit

/-- a list and an error -/
def IntsRet (l : List Int) (er : Int) (w : World) (e : Ending) (w' : World) : Prop :=
  Below w.heap.size w w' ∧ ∃ A c, e = .returned (.tuple #[.slice A l.length c, .int .i64 er]) ∧ RdI w' w'.heap.size A l
theorem IntsRet.nil {l : List Int} {er : Int} {w w' : World} (hl : l = []) (hb : Below w.heap.size w w') : IntsRet l er w (.returned (.tuple #[.slice none 0 0, .int .i64 er])) w' := by
  subst hl; exact ⟨hb, none, 0, rfl, .inl rfl⟩
theorem IntsRet.own {l : List Int} {er : Int} {w w' : World} {B : Nat} {e : TypeId} {v : Value} (h : OwnI w' B e v l) (hb : Below w.heap.size w w') : IntsRet l er w (.returned (.tuple #[v, .int .i64 er])) w' := by
  obtain ⟨A, c, rfl, hr⟩ := h.rd
  exact ⟨hb, A, c, rfl, hr⟩

def litL (f : Int → Int → Int) (K : List (Nat × Nat)) : List Int := (lmp K).map fun x => f x.1 x.2
def LitsE (L : List (Int × Int)) (s : Int) : Int := if vld L then (if btw 0 s 100000 then (if (lampsO (mets L) s).isNone then 5 else 0) else 2) else 40
def LitsL (f : Int → Int → Int) (L : List (Int × Int)) (s : Int) : List Int := if vld L && btw 0 s 100000 then litL f ((lampsO (mets L) s).getD []) else []

/-- what is told by a closure of a lamp -/
def TellL (g : Nat) (lb : Array Value) (f : Int → Int → Int) (w : World) : Prop :=
  ∀ (W : World) (x y : Int), Below w.heap.size w W → Calls Try.prog g (#[.agg #[.int .i64 x, .int .i64 y]] ++ lb) W fun e w' => e = .returned (.int .i64 (f x y)) ∧ Below W.heap.size W w'

theorem Lamps1_any (x y : Int) (w : World) :
    Calls Try.prog 21 #[.agg #[.int .i64 x, .int .i64 y]] w fun e w' => e = .returned (.int .i64 x) ∧ Below w.heap.size w w' := by
  go_enter Try.func21, Try.ntmps21
  go_wp2
  go_ret
  exact ⟨rfl, below_alloc _ _⟩
theorem Dark1_any (x y : Int) (w : World) :
    Calls Try.prog 22 #[.agg #[.int .i64 x, .int .i64 y]] w fun e w' => e = .returned (.int .i64 y) ∧ Below w.heap.size w w' := by
  go_enter Try.func22, Try.ntmps22
  go_wp2
  go_ret
  exact ⟨rfl, below_alloc _ _⟩
theorem lit1_any (A : Option Addr) (n c b0 : Nat) (s : Int) (w : World) (hc : w.cell? ⟨b0, 0, none⟩ = some (.int .i64 s)) :
    Calls Try.prog 47 #[.slice A n c, .pointer (some ⟨b0, 0, none⟩)] w fun e w' => e = .returned (.bool (btw 0 s 100000)) ∧ Below w.heap.size w w' := by
  go_enter Try.func47, Try.ntmps47
  go_wp2_with (go_at_call 25; refine (isStrength_any _ _).mono ?_; rintro e w' ⟨rfl, rfl⟩)
  go_ret
  exact ⟨rfl, Below.refl _ _⟩

theorem litL_take (f : Int → Int → Int) (K : List (Nat × Nat)) (i : Nat) (hi : i < (lmp K).length) : litL f (K.take (i + 1)) = litL f (K.take i) ++ [f (pa (lmp K) i) (pb (lmp K) i)] := by
  have h2 : i < K.length := by simpa [lmp] using hi
  have e : ∀ K : List (Nat × Nat), litL f K = K.map fun x => f x.1 x.2 := fun K => by unfold litL lmp; rw [List.map_map]; rfl
  rw [e, e, List.take_succ_eq_append_getElem h2, List.map_append]
  unfold pa pb lmp
  simp [h2]

set_option maxRecDepth 100000 in
set_option maxHeartbeats 2000000 in
theorem lit_any (g : Nat) (lb : Array Value) (f : Int → Int → Int) (A : Option Addr) (c : Nat) (L : List (Int × Int)) (s : Int) (w : World) (hr : RdP w w.heap.size A L) (hl : L.length ≤ 1125899906842624)
    (eg : ∀ args w, (callFunc g args).run Try.prog w = .ok (.enter g args) w) (ht : TellL g lb f w) :
    Calls Try.prog 20 #[.slice A L.length c, .int .i64 s, .func (.func g) #[] lb] w (IntsRet (LitsL f L s) (LitsE L s) w) := by
  have hB0 := below_alloc w (.cells #[.int .i64 s] 3)
  have hcell := cell_one w (.int .i64 s) 3
  have HO := Lib.hid (opened_any 47 #[.pointer (some ⟨w.heap.size, 0, none⟩)] A c L (btw 0 s 100000) (w.alloc (.cells #[.int .i64 s] 3)) (hr.on hB0) hl (enters_of Try.func47 (by kernel_rfl) rfl) (by
    intro hv W A' c' hB hR
    exact lit1_any A' _ c' w.heap.size s W (by rw [hB.cell (p := ⟨w.heap.size, 0, none⟩) (by simp)]; exact hcell)))
  have HG : Hid (∀ w', gate (vld L) (btw 0 s 100000) ≠ 0 → Below w.heap.size w w' → IntsRet (LitsL f L s) (LitsE L s) w (.returned (.tuple #[.slice none 0 0, .int .i64 (gate (vld L) (btw 0 s 100000))])) w') := Lib.hid (fun w' hg hb => by
    have hE : LitsE L s = gate (vld L) (btw 0 s 100000) := by
      unfold LitsE; unfold gate at hg ⊢
      cases hv : vld L <;> cases hs : btw 0 s 100000 <;> simp [hv, hs] at hg ⊢
    have hL : LitsL f L s = [] := by
      unfold LitsL; unfold gate at hg
      cases hv : vld L <;> cases hs : btw 0 s 100000 <;> simp [hv, hs] at hg ⊢
    rw [hE]
    exact IntsRet.nil hL hb)
  have HD : Hid (vld L = true → btw 0 s 100000 = true → (∀ W A' c', RdI W W.heap.size A' (cum (mets L)) → Calls Try.prog 41 #[.slice A' (cum (mets L)).length c', .int .i64 s] W fun e w' => Below W.heap.size W w' ∧ ((Hid (lampsO (mets L) s = none) ∧ e = .returned (.tuple #[.slice none 0 0, .bool false])) ∨ ∃ K n A2 c2, Hid (lampsO (mets L) s = some K ∧ (lmp K).length = n) ∧ n ≤ 600 ∧ e = .returned (.tuple #[.slice A2 n c2, .bool true]) ∧ Hid (RdP w' w'.heap.size A2 (lmp K)))) ∧
      (∀ w', lampsO (mets L) s = none → Below w.heap.size w w' → IntsRet (LitsL f L s) (LitsE L s) w (.returned (.tuple #[.slice none 0 0, .int .i64 5])) w') ∧
      (∀ w' K v, lampsO (mets L) s = some K → OwnI w' w.heap.size 3 v (litL f K) → Below w.heap.size w w' → IntsRet (LitsL f L s) (LitsE L s) w (.returned (.tuple #[v, .int .i64 0])) w') ∧ (∀ K, lampsO (mets L) s = some K → K.length ≤ 600)) := Lib.hid (fun hv hs => by
    have hok := okL_of_vld hv
    have h600 := mets_len600 hok
    have hs2 := btw_iff.1 hs
    refine ⟨fun W A' c' h => (lamps_any A' c' (mets L) s W h (mets_mem hok) h600 (by omega) (by omega)).mono (fun e w' ⟨hb, hh⟩ => ⟨hb, by
      rcases hh with ⟨h1, h2⟩ | ⟨K, v, h1, h2, h3⟩
      · exact .inl ⟨Lib.hid h1, h2⟩
      · obtain ⟨A2, c2, rfl, h4⟩ := h3.rd
        have := lampsO_len h1
        exact .inr ⟨K, _, A2, c2, Lib.hid ⟨h1, rfl⟩, by rw [lmp_len]; omega, h2, Lib.hid h4⟩⟩), fun w' hn hb => ?_, fun w' K v hK ho hb => ?_, fun K hK => by have := lampsO_len hK; omega⟩
    · have e1 : LitsE L s = 5 := by unfold LitsE; rw [hv, hs, hn]; rfl
      rw [e1]
      exact IntsRet.nil (by unfold LitsL; rw [hn]; simp [litL, lmp]) hb
    · have e1 : LitsE L s = 0 := by unfold LitsE; rw [hv, hs, hK]; rfl
      have e2 : LitsL f L s = litL f K := by unfold LitsL; rw [hv, hs, hK]; rfl
      rw [e1, e2]
      exact IntsRet.own ho hb)
  have HT := Lib.hid ht; clear ht hr hcell
  unfold TellL at HT
  generalize LitsL f L s = rl at *
  generalize LitsE L s = re at *
  generalize L.length = nL at *
  go_enter Try.func20, Try.ntmps20
  go_wp2_with (go_at_call 23; refine HO.out.mono ?_; rintro e w1 ⟨hB, h⟩; have hB1 := bcell hB; rcases h with ⟨hg, rfl⟩ | ⟨hv, hrt, A', c', rfl, hR⟩)
  · go_ret2
    exact HG.out _ hg (hB0.trs hB)
  · obtain ⟨d1, d2, d3, d4⟩ := HD.out hv hrt
    have HL := Lib.hid (d1 w1 A' c' hR)
    have HN := Lib.hid d2
    have HS := Lib.hid d3
    have H6 := Lib.hid d4
    have hBw := hB0.trs hB
    clear d1 d2 d3 d4 HD HG HO hv hrt hR
    generalize (cum (mets L)).length = q at *
    have hszw := hBw.size
    go_wp2_with (go_at_call 41; refine HL.out.mono ?_; rintro e w2 ⟨hB2, ⟨hn, rfl⟩ | ⟨K, n, A2, c2, hK, h600, rfl, HRP⟩⟩)
    · go_ret2
      exact HN.out _ hn.out (hBw.trs hB2)
    · have HS2 := Lib.hid (fun w' v => HS.out w' K v hK.out.1)
      have HLL := Lib.hid (lmp_len K)
      have HTK := Lib.hid (litL_take f K)
      have hBw2 := hBw.trs hB2
      have HBW := Lib.hid hBw2
      have hsz := hB2.size
      have HNN := Lib.hid hK.out.2
      clear hK HS HN H6 HL hB1 hB hB2 hBw hBw2 hB0
      go_loopg [34, 12] n (fun kk u v wr => ∃ (i : Nat), u = .int .i64 i ∧ i ≤ n ∧ n - i ≤ kk ∧ OwnI wr w2.heap.size 3 v (litL f (K.take i)) ∧ Below w2.heap.size w2 wr)
      case atStart => exact ⟨0, rfl, by omega, by omega, OwnI.nil _ _ _, Below.refl _ _⟩
      case round =>
        obtain ⟨i, rfl, hi, hkk, hO, hB⟩ := hrel
        have HO := Lib.hid hO; clear hO
        by_cases hlt : i < n
        · obtain ⟨b, o, rfl, hb, q1, q2⟩ := HRP.out.at_ (k := i) (by rw [HNN.out]; exact hlt)
          rw [← hB.cell hb] at q1 q2
          have hTK := HTK.out i (by rw [HNN.out]; exact hlt)
          have HTK2 := Lib.hid hTK; clear hTK
          have HTi := Lib.hid (fun W (hW : Below w.heap.size w W) => HT.out W (pa (lmp K) i) (pb (lmp K) i) hW)
          generalize pa (lmp K) i = x at *
          generalize pb (lmp K) i = y at *
          have HBw := Lib.hid (HBW.out.trs hB)
          have HB := Lib.hid hB; clear hB
          have hll : (litL f (K.take i)).length ≤ 600 := by unfold litL; rw [List.length_map, lmp_len, List.length_take]; omega
          have hbx := Box.new wr 45 #[.int .i64 x, .int .i64 y]
          obtain ⟨⟨z0, z1⟩, z2, z3⟩ := (⟨⟨hbx.cell 0, hbx.cell 1⟩, hbx.frozen 0, hbx.frozen 1⟩ : (_ ∧ _) ∧ _ ∧ _)
          clear hbx
          go_wp2_with (first
            | (go_at_fn g; refine (HTi.out _ (HBw.out.trs (below_alloc wr (.cells #[.int .i64 x, .int .i64 y] 45)))).mono ?_; rintro e w3 ⟨rfl, h3⟩; have hO3 := (HO.out.kept (below_alloc wr (.cells #[.int .i64 x, .int .i64 y] 45))).kept h3; have hB3 := (HBw.out.trs (below_alloc wr (.cells #[.int .i64 x, .int .i64 y] 45))).trs h3; have hB4 := (HB.out.trs (below_alloc wr (.cells #[.int .i64 x, .int .i64 y] 45))).trs h3; have hs4 := hB4.size; have HB4 := Lib.hid hB4; clear hB4)
            | (at_builtin; refine wp_app_int 23 rfl (.tmp 38) (.tmp 42) rfl Try.underlying23 infoInt _ w2.heap.size _ (litL f (K.take i)) (f x y) rfl rfl hO3 (by omega) hs4 ?_; intro v' w4 hO4 hB5 _; have HO4 := Lib.hid hO4; clear hO4 hO3))
          go_roundg (n - (i + 1))
          case measure => omega
          case rel => exact ⟨i + 1, by go_num, by omega, by omega, by rw [HTK2.out]; exact HO4.out, HB4.out.trans hB5⟩
        · obtain rfl : i = n := by omega
          have HF : Hid (K.take i = K) := Lib.hid (List.take_of_length_le (by rw [← HLL.out, HNN.out]; exact Nat.le_refl _))
          go_wp2
          go_ret2
          exact HS2.out _ _ (by rw [← HF.out]; exact HO.out.less (Nat.le_trans hszw hsz)) (HBW.out.trs hB)

theorem Lamps_any (A : Option Addr) (c : Nat) (L : List (Int × Int)) (s : Int) (w : World) (hr : RdP w w.heap.size A L) (hl : L.length ≤ 1125899906842624) :
    Calls Try.prog 8 #[.slice A L.length c, .int .i64 s] w (IntsRet (LitsL (fun x _ => x) L s) (LitsE L s) w) := by
  have H := Lib.hid (lit_any 21 #[] (fun x _ => x) A c L s w hr hl (enters_of Try.func21 (by kernel_rfl) rfl) (fun W x y _ => Lamps1_any x y W))
  have HP : Hid (∀ v er w', IntsRet (LitsL (fun x _ => x) L s) (LitsE L s) w (.returned (.tuple #[v, er])) w' → IntsRet (LitsL (fun x _ => x) L s) (LitsE L s) w (.returned (.tuple #[v, er])) w') := Lib.hid (fun _ _ _ h => h)
  clear hr
  generalize LitsL (fun x _ => x) L s = rl at *
  generalize LitsE L s = re at *
  go_enter Try.func8, Try.ntmps8
  go_wp2_with (go_at_call 20; refine H.out.mono ?_; rintro e w1 ⟨hB, A', c', rfl, hR⟩)
  go_ret2
  exact ⟨hB, A', c', rfl, hR⟩
theorem Dark_any (A : Option Addr) (c : Nat) (L : List (Int × Int)) (s : Int) (w : World) (hr : RdP w w.heap.size A L) (hl : L.length ≤ 1125899906842624) :
    Calls Try.prog 9 #[.slice A L.length c, .int .i64 s] w (IntsRet (LitsL (fun _ y => y) L s) (LitsE L s) w) := by
  have H := Lib.hid (lit_any 22 #[] (fun _ y => y) A c L s w hr hl (enters_of Try.func22 (by kernel_rfl) rfl) (fun W x y _ => Dark1_any x y W))
  clear hr
  generalize LitsL (fun _ y => y) L s = rl at *
  generalize LitsE L s = re at *
  go_enter Try.func9, Try.ntmps9
  go_wp2_with (go_at_call 20; refine H.out.mono ?_; rintro e w1 ⟨hB, A', c', rfl, hR⟩)
  go_ret2
  exact ⟨hB, A', c', rfl, hR⟩
end Go.Proofs.Ytbocedbonaeohaa
