/- The walk of the law AlertWorks. -/
import Derived.Test.YtannnbjadbmmcaaAlR
namespace Go.Proofs.Ytannnbjadbmmcaa
open Go.RowKit
set_option linter.unusedSimpArgs false
set_option linter.unusedVariables false

theorem Urg_valid (A : Option Addr) (c : Nat) (L : List (Int × Int × Int)) (w : World) (hr : RdT w w.heap.size A L) (hl : L.length ≤ 1125899906842624) (hv : vldT L = true) :
    Calls Try.prog 7 #[.slice A L.length c] w fun e w' => ∃ A2 c2, e = .returned (.tuple #[.slice A2 100 c2, .int .i64 0]) ∧ Below w.heap.size w w' ∧ RdI w' w'.heap.size A2 (urg L) := by
  have h := Urgent_any A c L w hr hl
  rw [hv, if_pos rfl, SlackE_yes hv] at h
  exact h.mono fun e w' ⟨h1, A2, c2, h2, h3⟩ => ⟨A2, c2, by rw [h2, urg_len], h1, h3⟩
theorem RightV_urg {L : List (Int × Int × Int)} (hok : okT L) : RightV L (urg L) = .tuple #[.bool true, .int .i64 0] := by
  have h : AskE L (urg L) = 0 := by unfold AskE; rw [vldT_of hok, urg_pln]; rfl
  unfold RightV
  rw [h, (rightB_iff urg_pln).2 (urg_right L hok)]; rfl
theorem FreeV_urg {L : List (Int × Int × Int)} (hok : okT L) : FreeV L (urg L) = .tuple #[.int .i64 (freeT (urg L) 100), .int .i64 0] := by
  have h : AskE L (urg L) = 0 := by unfold AskE; rw [vldT_of hok, urg_pln]; rfl
  unfold FreeV
  rw [h]; rfl
theorem hBon {w w' : World} {b o : Nat} (h : Below w.heap.size w w') (hb : b < w.heap.size) : w'.cell? ⟨b, o, none⟩ = w.cell? ⟨b, o, none⟩ := h.cell (p := ⟨b, o, none⟩) hb
/-- what is said of any plan -/
theorem Plan_valid {L : List (Int × Int × Int)} (p : List Int) (hok : okT L) :
    (RightV L p = .tuple #[.bool false, .int .i64 81] ∧ FreeV L p = .tuple #[.int .i64 0, .int .i64 81]) ∨
    ∃ f : Int, FreeV L p = .tuple #[.int .i64 f, .int .i64 0] ∧ (RightV L p = .tuple #[.bool false, .int .i64 0] ∨ (RightV L p = .tuple #[.bool true, .int .i64 0] ∧ freeT (urg L) 100 ≤ f)) := by
  unfold RightV FreeV
  rcases AskE_valid (p := p) (vldT_of hok) with ⟨h, hp⟩ | h
  · rw [h]
    refine .inr ⟨freeT p 100, rfl, ?_⟩
    cases hrb : rightB L p
    · exact .inl rfl
    · refine .inr ⟨rfl, ?_⟩
      have hr := (rightB_iff hp).1 hrb
      have h1 := urg_most L hok p (plnB_iff.1 hp).1 hr
      rw [freeT_sm p (fun m hm => ((plnB_iff.1 hp).2 m hm).1), freeT_sm (urg L) (fun m hm => ((plnB_iff.1 (urg_pln (L := L))).2 m hm).1)]
      omega
  · rw [h]; exact .inl ⟨rfl, rfl⟩
/-- none that could be worked on is more urgent -/
theorem best_says {L : List (Int × Int × Int)} {q : List Int} {m : Int} (n : Nat) : (bestT L q m n = -1 ∧ ∀ i, i < n → ¬ (0 < tc L i - cntI q i ∧ ta L i ≤ m ∧ m < tb L i)) ∨
    ∃ b : Nat, b < n ∧ bestT L q m n = b ∧ ∀ i, i < n → 0 < tc L i - cntI q i → ta L i ≤ m → m < tb L i → tb L b < tb L i ∨ (tb L b = tb L i ∧ b ≤ i) := by
  rcases bestT_spec L q m n with ⟨h1, h2⟩ | ⟨b, h1, h2, h3, h4⟩
  · refine .inl ⟨h1, fun i hi ⟨e1, e2, e3⟩ => ?_⟩
    have h := h2 i hi
    unfold avB at h
    rw [openB_iff.2 ⟨e2, e3⟩, decide_eq_true (by omega : cntI q i < tc L i)] at h
    cases h
  · refine .inr ⟨b, h1, h2, fun i hi e1 e2 e3 => h4 i hi ?_⟩
    unfold avB
    rw [openB_iff.2 ⟨e2, e3⟩, decide_eq_true (by omega : cntI q i < tc L i)]; rfl

end Go.Proofs.Ytannnbjadbmmcaa
