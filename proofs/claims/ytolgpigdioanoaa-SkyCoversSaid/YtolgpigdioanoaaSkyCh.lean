/- Walks over package sky: the closure that looks for whole cells, with its calls of itself. -/
import Derived.Test.YtolgpigdioanoaaSkyCg
namespace Go.Proofs.Ytolgpigdioanoaa
open Go.RowKit
set_option linter.unusedSimpArgs false
set_option linter.unusedVariables false

def kidC (S : Px) (h p : Nat) : Nat → List (Int × Int)
  | 0 => []
  | k + 1 => kidC S h p k ++ lookC S h (4 * p + k)
theorem kidC_all {S : Px} {h p : Nat} (ha : allP S (p * 4 ^ (h + 1)) (4 ^ (h + 1)) = false) : kidC S h p 4 = lookC S (h + 1) p := by
  rw [look_split ha]
  simp [kidC, List.append_assoc]
theorem look_len (S : Px) : ∀ h p : Nat, (lookC S h p).length ≤ 4 ^ h
  | 0, p => by simp only [lookC]; split <;> simp
  | h + 1, p => by
    cases ha : allP S (p * 4 ^ (h + 1)) (4 ^ (h + 1))
    · rw [look_split ha]
      have h0 := look_len S h (4 * p)
      have h1 := look_len S h (4 * p + 1)
      have h2 := look_len S h (4 * p + 2)
      have h3 := look_len S h (4 * p + 3)
      simp only [List.length_append, Nat.pow_succ]
      omega
    · rw [look_full ha]
      have := four_pos (h + 1)
      simp only [List.length_cons, List.length_nil]
      omega
theorem kidC_len (S : Px) (h p : Nat) : ∀ k, (kidC S h p k).length ≤ k * 4 ^ h
  | 0 => by simp [kidC]
  | k + 1 => by
    have h1 := kidC_len S h p k
    have h2 := look_len S h (4 * p + k)
    simp only [kidC, List.length_append, Nat.add_mul, Nat.one_mul]
    omega
set_option maxRecDepth 100000 in
set_option maxHeartbeats 4000000 in
theorem look_kids (S : Px) (g h p : Nat) (v : Value) (l : List (Int × Int)) (W : World) (hh : h + 1 ≤ 4) (hp : (p + 1) * 4 ^ (h + 1) ≤ 3072) (hl : l.length + 4 ^ (h + 1) ≤ 10000) (hC : CSt W g S v l) (ha : allP S (p * 4 ^ (h + 1)) (4 ^ (h + 1)) = false) (hn : 0 < cntP S (p * 4 ^ (h + 1)) (4 ^ (h + 1)))
    (ih : ∀ (k : Nat) (v : Value) (l : List (Int × Int)) (W : World), k < 4 → l.length + 4 ^ h ≤ 10000 → CSt W g S v l →
      Calls Try.prog 134 #[.agg #[.int .i64 (4 - (h : Int)), .int .i64 ((4 * p + k : Nat) : Int)], .pointer (some ⟨g, 0, none⟩), .pointer (some ⟨g + 1, 0, none⟩), .pointer (some ⟨g + 2, 0, none⟩)] W (LookQ g S v (l ++ lookC S h (4 * p + k)) W)) :
    Calls Try.prog 134 #[.agg #[.int .i64 (4 - ((h + 1 : Nat) : Int)), .int .i64 p], .pointer (some ⟨g, 0, none⟩), .pointer (some ⟨g + 1, 0, none⟩), .pointer (some ⟨g + 2, 0, none⟩)] W (LookQ g S v (l ++ lookC S (h + 1) p) W) := by
  have HA := Lib.hid (fun W => all_any S (h + 1) p W hh hp)
  have HF := Lib.hid (fun W => full_any S (h + 1) p W hh hp)
  rw [ha] at HA
  rw [← kidC_all ha]
  have hpb : p ≤ 3072 := by
    have h1 := four_pos (h + 1)
    have h2 := Nat.le_mul_of_pos_right (p + 1) h1
    omega
  have HIH := Lib.hid (fun k v W (hk : k < 4) hC => ih k v (l ++ kidC S h p k) W hk (by
    have h1 := kidC_len S h p k
    have h2 : (4 : Nat) ^ (h + 1) = 4 * 4 ^ h := by rw [Nat.pow_succ, Nat.mul_comm]
    have h3 := Nat.mul_le_mul_right (4 ^ h) (show k + 1 ≤ 4 by omega)
    rw [Nat.add_mul, Nat.one_mul] at h3
    simp only [List.length_append]
    omega) hC)
  have HKZ : Hid (l ++ kidC S h p 0 = l) := Lib.hid (by simp [kidC])
  have HKS : Hid (∀ k, l ++ kidC S h p k ++ lookC S h (4 * p + k) = l ++ kidC S h p (k + 1)) := Lib.hid (fun k => by simp [kidC])
  generalize kidC S h p = KI at *
  have ho2 : (4 : Int) - ((h + 1 : Nat) : Int) + 1 = 4 - (h : Int) := by omega
  rw [← ho2] at HIH
  have ho1 : (4 : Int) - ((h + 1 : Nat) : Int) < 4 := by omega
  have ho0 : 0 ≤ (4 : Int) - ((h + 1 : Nat) : Int) := by omega
  have hbl := below_alloc W (.cells #[.int .i64 (4 - ((h + 1 : Nat) : Int)), .int .i64 p] 60)
  have HX := Lib.hid (And.intro (Box.new W 60 #[.int .i64 (4 - ((h + 1 : Nat) : Int)), .int .i64 p]) (And.intro (hC.on hbl) hbl))
  have HSZ := Lib.hid rgA_size
  have HWG := Lib.hid hC.2.2.2.2
  have HVO := Lib.hid (fun k hk => (World.ownsRow.lt hC.2.2.1 k hk).2)
  have hcn : (0 : Int) < (cntP S (p * 4 ^ (h + 1)) (4 ^ (h + 1)) : Int) := by omega
  clear hC hbl ha hp hh hl ih ho2
  unfold rgV LookQ at *
  generalize (4 : Int) - ((h + 1 : Nat) : Int) = o at *
  generalize cntP S (p * 4 ^ (h + 1)) (4 ^ (h + 1)) = cn at *
  go_enter Try.func134, Try.ntmps134
  go_upto_region 1 with (fail)
  generalize hW0 : W.alloc (.cells #[.int .i64 o, .int .i64 p] 60) = W0 at *
  have hsz0 : W0.heap.size = W.heap.size + 1 := by rw [← hW0]; simp
  clear hW0
  have k0 := HX.out.1.cell 0
  have k1 := HX.out.1.cell 1
  simp at k0 k1
  go_wp2_with (first
    | (have hyy := hC1; refine wpList_load_reg_g rfl (.tmp 1) rfl g rfl S hC1.out.1 ?_)
    | (refine wpList_load_row rfl 98 (.tmp 1) rfl g rfl 98 _ (0, 0) _ HX.out.2.1.1 Try.underlying98 rfl (by rw [infoReg, HSZ.out]) ?_)
    | (go_at_call 116; refine (HA.out _).mono ?_; rintro e w1 ⟨rfl, h1⟩; have hC1 := Lib.hid (HX.out.2.1.on h1); have k0 := (HX.out.1.on h1).cell 0; have k1 := (HX.out.1.on h1).cell 1; simp at k0 k1)
    | (go_at_call 102; refine (HF.out _).mono ?_; rintro e w2 ⟨rfl, h2⟩))
  have HB2 := Lib.hid (h1.trs h2)
  go_loopg [24] 4 (fun gk t wr => ∃ (k : Nat) (v' : Value), t = .int .i64 k ∧ k ≤ 4 ∧ 4 - k ≤ gk ∧ CSt wr g S v' (l ++ KI k) ∧ Box wr W.heap.size 60 #[.int .i64 o, .int .i64 p] ∧ v'.ownBlock ≠ some W.heap.size ∧ Below g W wr ∧ KeepA g v v' W wr)
  case atStart => exact ⟨0, v, rfl, by omega, by omega, by rw [HKZ.out]; exact HX.out.2.1.on HB2.out, HX.out.1.on HB2.out, fun e => by have := HVO.out _ e; omega, (HX.out.2.2.trs HB2.out).mono (by have := HWG.out; omega), KeepA.below (HX.out.2.2.trs HB2.out)⟩
  case round =>
    obtain ⟨k, v', rfl, hk, hgk, hC, hX, hV, hB, hK⟩ := hrel
    by_cases hlt : k < 4
    · have hltI : (k : Int) < 4 := by omega
      have HCH := Lib.hid (HIH.out k v' wr hlt hC)
      have k0 := hX.cell 0
      have k1 := hX.cell 1
      have k2 := hC.2.2.2.1.cell 0
      simp at k0 k1 k2
      unfold lookV at k2
      have HL := Lib.hid (And.intro hlt hgk)
      have HKK := Lib.hid (And.intro hX (And.intro hV (And.intro hB hK)))
      have hlts := hX.lt
      clear hC hX hV hB hK
      push_cast at HCH
      go_wp2_with (go_at_call 134; refine HCH.out.mono ?_; rintro e w3 ⟨rfl, h3, v3, hC3, hK3⟩)
      have hb3 := hK3 W.heap.size hlts (by have := HWG.out; omega) HKK.out.2.1
      go_roundg (4 - (k + 1))
      case measure => have := HL.out; omega
      case rel => exact ⟨k + 1, v3, by go_num, by have := HL.out; omega, by have := HL.out; omega, by rw [← HKS.out]; exact hC3, hb3.1.trans HKK.out.1, hb3.2, HKK.out.2.2.1.trans h3, HKK.out.2.2.2.trans HKK.out.2.2.1.size hK3⟩
    · obtain rfl : k = 4 := by omega
      go_wp2
      go_end0
      exact ⟨rfl, hB, v', hC, hK⟩

/-- what the closure does -/
theorem look_any (S : Px) (g : Nat) : ∀ (h p : Nat) (v : Value) (l : List (Int × Int)) (W : World), h ≤ 4 → (p + 1) * 4 ^ h ≤ 3072 → l.length + 4 ^ h ≤ 10000 → CSt W g S v l →
    Calls Try.prog 134 #[.agg #[.int .i64 (4 - (h : Int)), .int .i64 p], .pointer (some ⟨g, 0, none⟩), .pointer (some ⟨g + 1, 0, none⟩), .pointer (some ⟨g + 2, 0, none⟩)] W (LookQ g S v (l ++ lookC S h p) W)
  | 0, p, v, l, W, hh, hp, hl, hC => by
    cases ha : allP S (p * 4 ^ 0) (4 ^ 0)
    · have := look_no S g 0 p v l W hh hp hC ha (.inl rfl)
      rw [look_leaf ha, List.append_nil]
      exact this
    · exact look_yes S g 0 p v l W hh hp (by omega) hC ha
  | h + 1, p, v, l, W, hh, hp, hl, hC => by
    cases ha : allP S (p * 4 ^ (h + 1)) (4 ^ (h + 1))
    · by_cases hn : cntP S (p * 4 ^ (h + 1)) (4 ^ (h + 1)) = 0
      · have := look_no S g (h + 1) p v l W hh hp hC ha (.inr hn)
        rw [look_none (show anyP S (p * 4 ^ (h + 1)) (4 ^ (h + 1)) = false by unfold anyP; rw [hn]; rfl), List.append_nil]
        exact this
      · refine look_kids S g h p v l W hh hp hl hC ha (by omega) fun k v l W hk hl hC => look_any S g h (4 * p + k) v l W (by omega) ?_ hl hC
        have h2 : (4 : Nat) ^ (h + 1) = 4 * 4 ^ h := by rw [Nat.pow_succ, Nat.mul_comm]
        have h3 := quarter p h (k + 1)
        have h4 := Nat.mul_le_mul_right (4 ^ h) (show k + 1 ≤ 4 by omega)
        rw [Nat.add_mul, Nat.one_mul] at hp
        rw [show 4 * p + k + 1 = 4 * p + (k + 1) by omega, h3]
        omega
    · exact look_yes S g (h + 1) p v l W hh hp (by have := four_pos (h + 1); omega) hC ha
end Go.Proofs.Ytolgpigdioanoaa
