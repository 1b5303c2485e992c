/- Walks over alert's reference: tasks moved, turned; Kept. -/
import Derived.Test.YtdafiblnanpiiaaAlUrR
namespace Go.Proofs.Ytdafiblnanpiiaa
open Go.RowKit
set_option linter.unusedSimpArgs false
set_option linter.unusedVariables false

def movX (k : Int) (x : Int × Int × Int) : Int × Int × Int := (x.1 + k, x.2.1 + k, x.2.2)
def movT (L : List (Int × Int × Int)) (k : Int) : List (Int × Int × Int) := L.map (movX k)
def trnX (x : Int × Int × Int) : Int × Int × Int := (100 - x.2.1, 100 - x.1, x.2.2)
def trnT (L : List (Int × Int × Int)) : List (Int × Int × Int) := L.map trnX
def MovE (L : List (Int × Int × Int)) (k : Int) : Int := if vldT L then (if btw (-100) k 100 && vldT (movT L k) then 0 else 2) else 80
def MovK (L : List (Int × Int × Int)) (k : Int) : List (Int × Int × Int) := if MovE L k = 0 then movT L k else []
/-- a list of tasks, and an error -/
def OutT (E : Int) (K : List (Int × Int × Int)) (w : World) (e : Ending) (w' : World) : Prop := Below w.heap.size w w' ∧ ∃ A c, e = .returned (.tuple #[.slice A K.length c, .int .i64 E]) ∧ RdT w' w'.heap.size A K
theorem tx_take {L : List (Int × Int × Int)} {i : Nat} (h : i < L.length) : L.take (i + 1) = L.take i ++ [tx L i] := by
  rw [List.take_succ_eq_append_getElem h, tx_get h]
def mapA (f : Int × Int × Int → Int × Int × Int) (L : List (Int × Int × Int)) (i : Nat) : List (Int × Int × Int) := (L.take i).map f
theorem mapA_succ (f : Int × Int × Int → Int × Int × Int) {L : List (Int × Int × Int)} {i : Nat} (h : i < L.length) : mapA f L (i + 1) = mapA f L i ++ [f (tx L i)] := by
  unfold mapA; rw [tx_take h, List.map_append]; rfl
theorem mapA_all (f : Int × Int × Int → Int × Int × Int) (L : List (Int × Int × Int)) : mapA f L L.length = L.map f := by unfold mapA; rw [List.take_length]
theorem mapA_len (f : Int × Int × Int → Int × Int × Int) (L : List (Int × Int × Int)) (i : Nat) : (mapA f L i).length ≤ L.length := by
  unfold mapA; rw [List.length_map]; exact List.length_take_le' i L

theorem OutT.no {L : List (Int × Int × Int)} {k E : Int} {w W : World} (h : MovE L k = E) (hE : E ≠ 0) (hW : Below w.heap.size w W) : OutT (MovE L k) (MovK L k) w (.returned (.tuple #[.slice none 0 0, .int .i64 E])) W :=
  ⟨hW, none, 0, by unfold MovK; rw [h, if_neg hE]; rfl, by unfold MovK; rw [h, if_neg hE]; exact .inl rfl⟩
theorem OutT.yes {L : List (Int × Int × Int)} {k : Int} {w W : World} {B : Nat} {v : Value} (h : MovE L k = 0) (hW : Below w.heap.size w W) (ho : OwnT W B 36 v (movT L k)) : OutT (MovE L k) (MovK L k) w (.returned (.tuple #[v, .int .i64 0])) W := by
  obtain ⟨A, c, rfl, hr⟩ := ho.rd
  exact ⟨hW, A, c, by unfold MovK; rw [h, if_pos rfl], by unfold MovK; rw [h, if_pos rfl]; exact hr⟩

set_option maxRecDepth 100000 in
set_option maxHeartbeats 8000000 in
theorem refMoved_any (A : Option Addr) (c : Nat) (L : List (Int × Int × Int)) (by_ : Int) (w : World) (hr : RdT w w.heap.size A L) (hl : L.length ≤ 1125899906842624) :
    Calls Try.prog 42 #[.slice A L.length c, .int .i64 by_] w (OutT (MovE L by_) (MovK L by_) w) := by
  have HV := Lib.hid (refValid_any A c L w hr hl)
  have HR := Lib.hid hr
  clear hr
  have hE : MovE L by_ = if vldT L then (if btw (-100) by_ 100 && vldT (movT L by_) then 0 else 2) else 80 := rfl
  have H1 := Lib.hid (fun E W (h : MovE L by_ = E) (hE : E ≠ 0) (hW : Below w.heap.size w W) => OutT.no h hE hW)
  have H2 := Lib.hid (fun W B v (h : MovE L by_ = 0) (hW : Below w.heap.size w W) (ho : OwnT W B 36 v (movT L by_)) => OutT.yes h hW ho)
  generalize OutT (MovE L by_) (MovK L by_) w = Q at *
  cases hv : vldT L <;> rw [hv] at HV hE
  · have HE := Lib.hid hE
    clear hv H2 hE
    generalize L.length = n at *
    go_enter Try.func42, Try.ntmps42
    go_wp2_with (first | (go_at_call 22; refine HV.out.mono ?_; rintro e w1 ⟨rfl, h1⟩) | (go_at_call 63; (with_reducible refine (within_any _ _ _ _).mono ?_); rintro e w' ⟨rfl, rfl⟩))
    exact H1.out _ _ HE.out (by decide) h1
  · have hok := okT_of hv
    cases hb : btw (-100) by_ 100 <;> rw [hb] at hE
    · have HE := Lib.hid hE
      have HBT := Lib.hid hb
      clear hv H2 hE hok
      generalize L.length = n at *
      go_enter Try.func42, Try.ntmps42
      go_wp2_with (first | (go_at_call 22; refine HV.out.mono ?_; rintro e w1 ⟨rfl, h1⟩) | (go_at_call 63; (with_reducible refine (within_any _ _ _ _).mono ?_); rintro e w' ⟨rfl, rfl⟩))
      exact H1.out 2 _ HE.out (by decide) h1
    · have hby := btw_iff.1 hb
      have hn12 := hok.1.2
      have HOK := Lib.hid hok.2
      have HMS := Lib.hid (fun i hi => mapA_succ (movX by_) (L := L) (i := i) hi)
      have HML := Lib.hid (mapA_len (movX by_) L)
      have HMA : Hid (mapA (movX by_) L L.length = movT L by_) := Lib.hid (mapA_all _ _)
      have HM0 : Hid (mapA (movX by_) L 0 = []) := Lib.hid rfl
      have HX : Hid (∀ i, movX by_ (tx L i) = (ta L i + by_, tb L i + by_, tc L i)) := Lib.hid (fun _ => rfl)
      have hml : (movT L by_).length = L.length := by simp [movT]
      have HV2 := Lib.hid (fun A2 c2 W (h : RdT W W.heap.size A2 (movT L by_)) => refValid_any A2 c2 (movT L by_) W h (by rw [hml]; omega))
      rw [hml] at HV2
      have HMLn := Lib.hid hml
      clear hv hok hml
      generalize mapA (movX by_) L = mv at *
      generalize movT L by_ = mt at *
      generalize hn : L.length = n at *
      have HN := Lib.hid hn; clear hn
      go_enter Try.func42, Try.ntmps42
      go_wp2_with (first | (go_at_call 22; refine HV.out.mono ?_; rintro e w1 ⟨rfl, h1⟩; have HB1 := Lib.hid h1; clear h1) | (go_at_call 63; (with_reducible refine (within_any _ _ _ _).mono ?_); rintro e w' ⟨rfl, rfl⟩))
      go_loopg [6, 7] n (fun k v t wr => ∃ i : Nat, t = .int .i64 i ∧ i ≤ n ∧ n - i ≤ k ∧ Below w1.heap.size w1 wr ∧ OwnT wr w1.heap.size 36 v (mv i))
      case atStart => exact ⟨0, rfl, by omega, by omega, Below.refl _ _, by rw [HM0.out]; exact OwnT.nil _ _ _⟩
      case round =>
        obtain ⟨i, rfl, hi, hk, hB, hO⟩ := hrel
        by_cases hlt : i < n
        · obtain ⟨bb, o, rfl, hbb, c1, c2, c3⟩ := HR.out.at_ (k := i) (by rw [HN.out]; exact hlt)
          have hok := HOK.out i hlt
          have HCE := Lib.hid (fun W (hW : Below w1.heap.size w1 W) => (show Below w1.heap.size w1 W ∧ W.cell? ⟨bb, o + i * 3, none⟩ = some (.int .i64 (ta L i)) ∧ W.cell? ⟨bb, o + i * 3 + 1, none⟩ = some (.int .i64 (tb L i)) ∧ W.cell? ⟨bb, o + i * 3 + 2, none⟩ = some (.int .i64 (tc L i)) from
            ⟨hW, ((HB1.out.trs hW).cell (p := ⟨bb, o + i * 3, none⟩) hbb).trans c1, ((HB1.out.trs hW).cell (p := ⟨bb, o + i * 3 + 1, none⟩) hbb).trans c2, ((HB1.out.trs hW).cell (p := ⟨bb, o + i * 3 + 2, none⟩) hbb).trans c3⟩))
          have HMSi := Lib.hid (HMS.out i hlt)
          rw [HX.out] at HMSi
          have hmli := HML.out i
          have HO := Lib.hid hO
          have HBB := Lib.hid hB
          have hz := hB.size
          clear c1 c2 c3 hO hB
          generalize ta L i = x at *
          generalize tb L i = y at *
          generalize tc L i = z at *
          have v1 : wrap64 (x + by_) = x + by_ := IntWalk.wrap64_in _ (by omega)
          have v2 : wrap64 (y + by_) = y + by_ := IntWalk.wrap64_in _ (by omega)
          have v3 : IntKind.i64.wrap (x + by_) = x + by_ := IntWalk.i64_in _ (by omega)
          have v4 : IntKind.i64.wrap (y + by_) = y + by_ := IntWalk.i64_in _ (by omega)
          have hi0 : (i : Int) < (n : Int) := by omega
          go_wp2
          go_region_held3 (fun w' => Below w1.heap.size w1 w' ∧ w'.cell? ⟨bb, o + i * 3, none⟩ = some (.int .i64 x) ∧ w'.cell? ⟨bb, o + i * 3 + 1, none⟩ = some (.int .i64 y) ∧ w'.cell? ⟨bb, o + i * 3 + 2, none⟩ = some (.int .i64 z))
            (first | exact HCE.out _ hBF | exact HCE.out _ (HBB.out.drewsN 1) | exact HCE.out _ ((‹Below w1.heap.size w1 _ ∧ _›).1.trs (below_alloc _ _)) | go_keep)
            (first
              | (refine step_app_trip 22 36 rfl (.tmp 20) (.tmp 41) rfl Try.underlying22 infoTask _ w1.heap.size _ _ (mv i) (x + by_) (y + by_) z rfl rfl ((HO.out.kept ((Below.refl _ _).drewsN 1)).kept (below_alloc _ _)) (Box.new _ _ _) (by omega) (by simp; omega) ?_; intro v3 w3 hO3 hB3 _ _; have hBF := ((HBB.out.drewsN 1).trs (below_alloc _ _)).trans hB3)
              | (refine step_app_trip 22 36 rfl (.tmp 20) (.tmp 41) rfl Try.underlying22 infoTask _ w1.heap.size _ _ (mv i) (x + by_) (y + by_) z rfl rfl (HO.out.kept (below_alloc _ _).drew) (Box.new wr _ _) (by omega) (by simp; omega) ?_; intro v3 w3 hO3 hB3 _ _; have hBF := (HBB.out.trs (below_alloc _ _).drew).trans hB3))
          all_goals
            go_wp2
            go_roundg (n - (i + 1))
            case measure => omega
            case rel => exact ⟨i + 1, by go_num, by omega, by omega, hBF, by rw [HMSi.out]; exact hO3⟩
        · obtain rfl : n = i := by omega
          rw [HMA.out] at hO
          have HO := Lib.hid hO
          have HBB := Lib.hid hB
          obtain ⟨A9, c9, rfl, r9⟩ := hO.rd
          have HV3 := Lib.hid (HV2.out A9 c9 wr r9)
          clear hO hB r9
          rw [HMLn.out] at HO ⊢
          cases hvm : vldT mt <;> rw [hvm] at HV3 hE
          · have HE := Lib.hid hE
            clear hE hvm
            go_wp2_with (go_at_call 22; refine HV3.out.mono ?_; rintro e w2 ⟨rfl, h2⟩)
            exact H1.out 2 _ HE.out (by decide) ((HB1.out.trs HBB.out).trs h2)
          · have HE := Lib.hid hE
            clear hE hvm
            go_wp2_with (go_at_call 22; refine HV3.out.mono ?_; rintro e w2 ⟨rfl, h2⟩)
            exact H2.out _ _ _ HE.out ((HB1.out.trs HBB.out).trs h2) (HO.out.kept h2)

def TrnK (L : List (Int × Int × Int)) : List (Int × Int × Int) := if vldT L then trnT L else []
theorem OutT.trn_no {L : List (Int × Int × Int)} {w W : World} (h : vldT L = false) (hW : Below w.heap.size w W) : OutT (SlackE L) (TrnK L) w (.returned (.tuple #[.slice none 0 0, .int .i64 80])) W :=
  ⟨hW, none, 0, by unfold TrnK; rw [SlackE_no h, h]; rfl, by unfold TrnK; rw [h]; exact .inl rfl⟩
theorem OutT.trn_yes {L : List (Int × Int × Int)} {w W : World} {B : Nat} {v : Value} (h : vldT L = true) (hW : Below w.heap.size w W) (ho : OwnT W B 36 v (trnT L)) : OutT (SlackE L) (TrnK L) w (.returned (.tuple #[v, .int .i64 0])) W := by
  obtain ⟨A, c, rfl, hr⟩ := ho.rd
  exact ⟨hW, A, c, by unfold TrnK; rw [SlackE_yes h, h, if_pos rfl], by unfold TrnK; rw [h, if_pos rfl]; exact hr⟩

set_option maxRecDepth 100000 in
set_option maxHeartbeats 8000000 in
theorem refTurned_any (A : Option Addr) (c : Nat) (L : List (Int × Int × Int)) (w : World) (hr : RdT w w.heap.size A L) (hl : L.length ≤ 1125899906842624) :
    Calls Try.prog 45 #[.slice A L.length c] w (OutT (SlackE L) (TrnK L) w) := by
  have HV := Lib.hid (refValid_any A c L w hr hl)
  have HR := Lib.hid hr
  clear hr
  have H1 := Lib.hid (fun W (h : vldT L = false) (hW : Below w.heap.size w W) => OutT.trn_no h hW)
  have H2 := Lib.hid (fun W B v (h : vldT L = true) (hW : Below w.heap.size w W) (ho : OwnT W B 36 v (trnT L)) => OutT.trn_yes h hW ho)
  generalize OutT (SlackE L) (TrnK L) w = Q at *
  cases hv : vldT L <;> rw [hv] at HV
  · have HE := Lib.hid hv
    clear hv H2
    generalize L.length = n at *
    go_enter Try.func45, Try.ntmps45
    go_wp2_with (go_at_call 22; refine HV.out.mono ?_; rintro e w1 ⟨rfl, h1⟩)
    exact H1.out _ HE.out h1
  · have hok := okT_of hv
    have hn12 := hok.1.2
    have HOK := Lib.hid hok.2
    have HMS := Lib.hid (fun i hi => mapA_succ trnX (L := L) (i := i) hi)
    have HML := Lib.hid (mapA_len trnX L)
    have HMA : Hid (mapA trnX L L.length = trnT L) := Lib.hid (mapA_all _ _)
    have HM0 : Hid (mapA trnX L 0 = []) := Lib.hid rfl
    have HX : Hid (∀ i, trnX (tx L i) = (100 - tb L i, 100 - ta L i, tc L i)) := Lib.hid (fun _ => rfl)
    have H2' := Lib.hid (fun W B v => H2.out W B v hv)
    clear hv hok H1 H2
    generalize mapA trnX L = mv at *
    generalize trnT L = mt at *
    generalize hn : L.length = n at *
    have HN := Lib.hid hn; clear hn
    go_enter Try.func45, Try.ntmps45
    go_wp2_with (go_at_call 22; refine HV.out.mono ?_; rintro e w1 ⟨rfl, h1⟩; have HB1 := Lib.hid h1; clear h1)
    go_loopg [4, 5] n (fun k v t wr => ∃ i : Nat, t = .int .i64 i ∧ i ≤ n ∧ n - i ≤ k ∧ Below w1.heap.size w1 wr ∧ OwnT wr w1.heap.size 36 v (mv i))
    case atStart => exact ⟨0, rfl, by omega, by omega, Below.refl _ _, by rw [HM0.out]; exact OwnT.nil _ _ _⟩
    case round =>
      obtain ⟨i, rfl, hi, hk, hB, hO⟩ := hrel
      by_cases hlt : i < n
      · obtain ⟨bb, o, rfl, hbb, c1, c2, c3⟩ := HR.out.at_ (k := i) (by rw [HN.out]; exact hlt)
        have hok := HOK.out i hlt
        have HCE := Lib.hid (fun W (hW : Below w1.heap.size w1 W) => (show Below w1.heap.size w1 W ∧ W.cell? ⟨bb, o + i * 3, none⟩ = some (.int .i64 (ta L i)) ∧ W.cell? ⟨bb, o + i * 3 + 1, none⟩ = some (.int .i64 (tb L i)) ∧ W.cell? ⟨bb, o + i * 3 + 2, none⟩ = some (.int .i64 (tc L i)) from
          ⟨hW, ((HB1.out.trs hW).cell (p := ⟨bb, o + i * 3, none⟩) hbb).trans c1, ((HB1.out.trs hW).cell (p := ⟨bb, o + i * 3 + 1, none⟩) hbb).trans c2, ((HB1.out.trs hW).cell (p := ⟨bb, o + i * 3 + 2, none⟩) hbb).trans c3⟩))
        have HMSi := Lib.hid (HMS.out i hlt)
        rw [HX.out] at HMSi
        have hmli := HML.out i
        have HO := Lib.hid hO
        have HBB := Lib.hid hB
        have hz := hB.size
        clear c1 c2 c3 hO hB
        generalize ta L i = x at *
        generalize tb L i = y at *
        generalize tc L i = z at *
        have v1 : wrap64 (100 - x) = 100 - x := IntWalk.wrap64_in _ (by omega)
        have v2 : wrap64 (100 - y) = 100 - y := IntWalk.wrap64_in _ (by omega)
        have v3 : IntKind.i64.wrap (100 - x) = 100 - x := IntWalk.i64_in _ (by omega)
        have v4 : IntKind.i64.wrap (100 - y) = 100 - y := IntWalk.i64_in _ (by omega)
        have hi0 : (i : Int) < (n : Int) := by omega
        go_wp2
        go_region_held3 (fun w' => Below w1.heap.size w1 w' ∧ w'.cell? ⟨bb, o + i * 3, none⟩ = some (.int .i64 x) ∧ w'.cell? ⟨bb, o + i * 3 + 1, none⟩ = some (.int .i64 y) ∧ w'.cell? ⟨bb, o + i * 3 + 2, none⟩ = some (.int .i64 z))
          (first | exact HCE.out _ hBF | exact HCE.out _ (HBB.out.drewsN 1) | exact HCE.out _ ((‹Below w1.heap.size w1 _ ∧ _›).1.trs (below_alloc _ _)) | go_keep)
          (first
            | (refine step_app_trip 22 36 rfl (.tmp 15) (.tmp 34) rfl Try.underlying22 infoTask _ w1.heap.size _ _ (mv i) (100 - y) (100 - x) z rfl rfl ((HO.out.kept ((Below.refl _ _).drewsN 1)).kept (below_alloc _ _)) (Box.new _ _ _) (by omega) (by simp; omega) ?_; intro v3 w3 hO3 hB3 _ _; have hBF := ((HBB.out.drewsN 1).trs (below_alloc _ _)).trans hB3)
            | (refine step_app_trip 22 36 rfl (.tmp 15) (.tmp 34) rfl Try.underlying22 infoTask _ w1.heap.size _ _ (mv i) (100 - y) (100 - x) z rfl rfl (HO.out.kept (below_alloc _ _).drew) (Box.new wr _ _) (by omega) (by simp; omega) ?_; intro v3 w3 hO3 hB3 _ _; have hBF := (HBB.out.trs (below_alloc _ _).drew).trans hB3))
        all_goals
          go_wp2
          go_roundg (n - (i + 1))
          case measure => omega
          case rel => exact ⟨i + 1, by go_num, by omega, by omega, hBF, by rw [HMSi.out]; exact hO3⟩
      · obtain rfl : n = i := by omega
        rw [HMA.out] at hO
        have HO := Lib.hid hO
        have HBB := Lib.hid hB
        clear hO hB
        go_wp2
        exact H2'.out _ _ _ (HB1.out.trs HBB.out) HO.out
end Go.Proofs.Ytdafiblnanpiiaa
