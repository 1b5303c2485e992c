/- Plain laws: tasks that are moved and turned have the same slack, and want as many machines. -/
import Derived.Test.YtdafiblnanpiiaaAlLawM
import Derived.Test.YtdafiblnanpiiaaAlMv
namespace Go.Proofs.Ytdafiblnanpiiaa
set_option linter.unusedVariables false

theorem slk_le_of {L L' : List (Int × Int × Int)} (h : ∀ a b : Int, 0 ≤ a → a < b → b ≤ 100 → ∃ a' b' : Int, 0 ≤ a' ∧ a' < b' ∧ b' ≤ 100 ∧ b' - a' - dem L' a' b' ≤ b - a - dem L a b) : slk L' ≤ slk L := by
  rcases slk_cases L with h1 | ⟨a, b, h1, h2, h3, h4⟩
  · rw [h1]; exact (slkF_le L' strAll).1
  · obtain ⟨a', b', k1, k2, k3, k4⟩ := h a b h1 h2 h3
    have := slk_le L' k1 k2 k3
    omega
theorem demL_map {f : Int × Int × Int → Int × Int × Int} {a b a' b' : Int} (L : List (Int × Int × Int)) (h : ∀ x ∈ L, inX a' b' (f x) = inX a b x) : demL (L.map f) a' b' = demL L a b := by
  induction L with
  | nil => rfl
  | cons x L ih =>
    have h1 := h x (by simp)
    have h2 := ih (fun y hy => h y (by simp [hy]))
    unfold demL at h2 ⊢
    simp only [List.map_cons, List.foldr_cons]
    rw [h1, h2]
theorem dem_trn (L : List (Int × Int × Int)) (a b : Int) : dem (trnT L) (100 - b) (100 - a) = dem L a b := by
  rw [dem_eq, dem_eq]
  refine demL_map L fun x _ => ?_
  unfold inX trnX
  by_cases h : a ≤ x.1 ∧ x.2.1 ≤ b
  · rw [if_pos h, if_pos (by show 100 - b ≤ 100 - x.2.1 ∧ 100 - x.1 ≤ 100 - a; omega)]
  · rw [if_neg h, if_neg (by show ¬ (100 - b ≤ 100 - x.2.1 ∧ 100 - x.1 ≤ 100 - a); omega)]
theorem trn_trn (L : List (Int × Int × Int)) : trnT (trnT L) = L := by
  unfold trnT
  rw [List.map_map]
  conv => rhs; rw [← List.map_id L]
  refine List.map_congr_left fun x _ => ?_
  simp only [Function.comp, trnX, id]
  have e1 : (100 : Int) - (100 - x.1) = x.1 := by omega
  have e2 : (100 : Int) - (100 - x.2.1) = x.2.1 := by omega
  rw [e1, e2]
theorem slk_trn_le (L : List (Int × Int × Int)) : slk (trnT L) ≤ slk L := by
  refine slk_le_of fun a b h1 h2 h3 => ⟨100 - b, 100 - a, by omega, by omega, by omega, ?_⟩
  rw [dem_trn]; omega
theorem slk_trn (L : List (Int × Int × Int)) : slk (trnT L) = slk L := by
  have h1 := slk_trn_le L
  have h2 := slk_trn_le (trnT L)
  rw [trn_trn] at h2
  omega
theorem okT_trn {L : List (Int × Int × Int)} (h : okT L) : okT (trnT L) := by
  rw [okT_iff] at h ⊢
  refine ⟨by simpa [trnT] using h.1, fun x hx => ?_⟩
  simp only [trnT, List.mem_map] at hx
  obtain ⟨y, hy, rfl⟩ := hx
  have := h.2 y hy
  unfold okX at this ⊢
  unfold trnX
  simp only
  omega
theorem slk_mov_le {L : List (Int × Int × Int)} {k : Int} (hok : okT L) (hm : okT (movT L k)) : slk (movT L k) ≤ slk L := by
  refine slk_le_of fun a b h1 h2 h3 => ?_
  have hx : ∀ x ∈ L, okX x ∧ okX (movX k x) := fun x hx => ⟨(okT_iff.1 hok).2 x hx, (okT_iff.1 hm).2 _ (List.mem_map_of_mem hx)⟩
  by_cases hab : max (a + k) 0 < min (b + k) 100
  · refine ⟨max (a + k) 0, min (b + k) 100, by omega, hab, by omega, ?_⟩
    have e : dem (movT L k) (max (a + k) 0) (min (b + k) 100) = dem L a b := by
      rw [dem_eq, dem_eq]
      refine demL_map L fun x hxm => ?_
      have ⟨o1, o2⟩ := hx x hxm
      unfold okX at o1 o2
      unfold movX at o2
      simp only at o2
      unfold inX movX
      by_cases h : a ≤ x.1 ∧ x.2.1 ≤ b
      · rw [if_pos h, if_pos (by show max (a + k) 0 ≤ x.1 + k ∧ x.2.1 + k ≤ min (b + k) 100; omega)]
      · rw [if_neg h, if_neg (by show ¬ (max (a + k) 0 ≤ x.1 + k ∧ x.2.1 + k ≤ min (b + k) 100); omega)]
    rw [e]; omega
  · refine ⟨0, 1, by omega, by omega, by omega, ?_⟩
    have e : dem L a b = 0 := by
      rw [dem_eq]
      have : ∀ M : List (Int × Int × Int), (∀ x ∈ M, okX x ∧ okX (movX k x)) → demL M a b = 0 := by
        intro M
        induction M with
        | nil => intro _; rfl
        | cons x M ih =>
          intro hM
          have h1 := ih (fun y hy => hM y (by simp [hy]))
          have ⟨o1, o2⟩ := hM x (by simp)
          unfold okX at o1 o2
          unfold movX at o2
          simp only at o2
          unfold demL at h1 ⊢
          simp only [List.foldr_cons]
          rw [h1]
          unfold inX
          rw [if_neg (by omega)]; rfl
      exact this L hx
    have := dem_bd hm 0 1
    omega
theorem mov_mov (L : List (Int × Int × Int)) (k : Int) : movT (movT L k) (-k) = L := by
  unfold movT
  rw [List.map_map]
  conv => rhs; rw [← List.map_id L]
  refine List.map_congr_left fun x _ => ?_
  simp only [Function.comp, movX, id]
  have e1 : x.1 + k + -k = x.1 := by omega
  have e2 : x.2.1 + k + -k = x.2.1 := by omega
  rw [e1, e2]
theorem slk_mov {L : List (Int × Int × Int)} {k : Int} (hok : okT L) (hm : okT (movT L k)) : slk (movT L k) = slk L := by
  have h1 := slk_mov_le hok hm
  have h2 := slk_mov_le (L := movT L k) (k := -k) hm (by rw [mov_mov]; exact hok)
  rw [mov_mov] at h2
  omega
theorem at_map (f : Int × Int × Int → Int × Int × Int) {L : List (Int × Int × Int)} {i : Nat} (hi : i < L.length) : tx (L.map f) i = f (tx L i) := by
  rw [tx_get (by simpa using hi), tx_get hi]; simp
theorem sev_trn_of {L : List (Int × Int × Int)} {k : Int} (hok : okT L) (h : SevP L k) : SevP (trnT L) k := by
  have ha : ∀ i, i < L.length → ta (trnT L) i = 100 - tb L i ∧ tb (trnT L) i = 100 - ta L i ∧ tc (trnT L) i = tc L i := fun i hi => by
    have e := at_map trnX hi
    unfold tx trnX at e
    simp only [Prod.mk.injEq] at e
    exact e
  refine SevP.turn (fun x => 99 - x) (fun y => 99 - y) (fun x y => by constructor <;> intro h <;> omega) (by simp [trnT]) (fun i hi => (ha i hi).2.2) (fun i hi x _ _ => ?_) (fun i hi y h1 h2 => ?_) h
  · rw [(ha i hi).1, (ha i hi).2.1]
    show _ ↔ ta L i ≤ 99 - x ∧ 99 - x < tb L i
    omega
  · have := hok.2 i hi
    show 0 ≤ 99 - y ∧ 99 - y < 100
    omega
theorem sev_trn {L : List (Int × Int × Int)} {k : Int} (hok : okT L) : SevP (trnT L) k ↔ SevP L k :=
  ⟨fun h => by have := sev_trn_of (okT_trn hok) h; rwa [trn_trn] at this, sev_trn_of hok⟩
theorem sev_mov_of {L : List (Int × Int × Int)} {k m : Int} (hok : okT L) (hm : okT (movT L m)) (h : SevP L k) : SevP (movT L m) k := by
  have ha : ∀ i, i < L.length → ta (movT L m) i = ta L i + m ∧ tb (movT L m) i = tb L i + m ∧ tc (movT L m) i = tc L i := fun i hi => by
    have e := at_map (movX m) hi
    unfold tx movX at e
    simp only [Prod.mk.injEq] at e
    exact e
  refine SevP.turn (fun x => x - m) (fun y => y + m) (fun x y => by constructor <;> intro h <;> omega) (by simp [movT]) (fun i hi => (ha i hi).2.2) (fun i hi x _ _ => ?_) (fun i hi y h1 h2 => ?_) h
  · rw [(ha i hi).1, (ha i hi).2.1]
    show _ ↔ ta L i ≤ x - m ∧ x - m < tb L i
    omega
  · have := hm.2 i (by simpa [movT] using hi)
    rw [(ha i hi).1, (ha i hi).2.1] at this
    show 0 ≤ y + m ∧ y + m < 100
    omega
theorem sev_mov {L : List (Int × Int × Int)} {k m : Int} (hok : okT L) (hm : okT (movT L m)) : SevP (movT L m) k ↔ SevP L k :=
  ⟨fun h => by have := sev_mov_of hm (by rw [mov_mov]; exact hok) h; rwa [mov_mov] at this, sev_mov_of hok hm⟩
end Go.Proofs.Ytdafiblnanpiiaa
