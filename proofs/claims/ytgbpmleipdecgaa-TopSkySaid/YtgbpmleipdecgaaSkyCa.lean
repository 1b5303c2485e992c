/- SkyCa SkyCb -/
import Derived.Test.YtgbpmleipdecgaaLib
import Derived.Laws.BitsLemmas
/- Words of 64 pixels: plain. -/
namespace Go.Proofs.Ytgbpmleipdecgaa
set_option linter.unusedSimpArgs false
set_option linter.unusedVariables false

/-- the number with these bits -/
def bnF (f : Nat → Bool) : Nat → Nat
  | 0 => 0
  | n + 1 => 2 ^ n * (f n).toNat + bnF f n
theorem bnF_lt (f : Nat → Bool) : ∀ n, bnF f n < 2 ^ n
  | 0 => by simp [bnF]
  | n + 1 => by
    have := bnF_lt f n
    simp only [bnF, Nat.pow_succ]
    cases f n <;> simp <;> omega
theorem bnF_bit (f : Nat → Bool) (j : Nat) : ∀ n, (bnF f n).testBit j = (decide (j < n) && f j)
  | 0 => by simp [bnF]
  | n + 1 => by
    have h := bnF_lt f n
    have ih := bnF_bit f j n
    simp only [bnF]
    rcases Nat.lt_trichotomy j n with hj | rfl | hj
    · have : decide (j < n + 1) = true := by simp; omega
      rw [this, Bool.true_and]
      rw [show decide (j < n) = true by simpa using hj, Bool.true_and] at ih
      cases hf : f n
      · simpa using ih
      · simp only [Bool.toNat_true, Nat.mul_one]
        rw [Nat.testBit_two_pow_add_gt hj]
        exact ih
    · have : decide (j < j + 1) = true := by simp
      rw [this, Bool.true_and]
      have h0 : (bnF f j).testBit j = false := Nat.testBit_lt_two_pow h
      cases hf : f j
      · simpa using h0
      · simp only [Bool.toNat_true, Nat.mul_one]
        rw [Nat.testBit_two_pow_add_eq, h0]
        rfl
    · have : decide (j < n + 1) = false := by simp; omega
      rw [this, Bool.false_and]
      refine Nat.testBit_lt_two_pow ?_
      have h2 := bnF_lt f (n + 1)
      simp only [bnF] at h2
      exact Nat.lt_of_lt_of_le h2 (Nat.pow_le_pow_right (by omega) hj)
/-- the pixels of the order 4 that a set has -/
abbrev Px := Nat → Bool
/-- the i-th word -/
def wd (S : Px) (i : Nat) : Nat := bnF (fun j => S (64 * i + j)) 64
theorem wd_lt (S : Px) (i : Nat) : wd S i < 18446744073709551616 := bnF_lt _ 64
theorem wd_bit (S : Px) (i j : Nat) : (wd S i).testBit j = (decide (j < 64) && S (64 * i + j)) := bnF_bit _ _ _
theorem wd_ext {S T : Px} {i : Nat} (h : ∀ j, j < 64 → S (64 * i + j) = T (64 * i + j)) : wd S i = wd T i := by
  refine Nat.eq_of_testBit_eq fun j => ?_
  rw [wd_bit, wd_bit]
  by_cases hj : j < 64
  · rw [h j hj]
  · simp [hj]
theorem wd_none (i : Nat) : wd (fun _ => false) i = 0 := by
  refine Nat.eq_of_testBit_eq fun j => ?_
  rw [wd_bit]; simp
theorem wd_all (i : Nat) : wd (fun _ => true) i = 18446744073709551615 := by
  refine Nat.eq_of_testBit_eq fun j => ?_
  rw [wd_bit, show (18446744073709551615 : Nat) = 2 ^ 64 - 1 by rfl, Nat.testBit_two_pow_sub_one]; simp
theorem wd_set (S : Px) (p : Nat) : wd S (p / 64) ||| 2 ^ (p % 64) = wd (fun x => S x || x == p) (p / 64) := by
  refine Nat.eq_of_testBit_eq fun j => ?_
  rw [Nat.testBit_or, wd_bit, wd_bit, Nat.testBit_two_pow]
  by_cases hj : j < 64
  · have : decide (p % 64 = j) = (64 * (p / 64) + j == p) := by
      rw [Bool.eq_iff_iff, decide_eq_true_eq, beq_iff_eq]; omega
    simp [hj, this]
  · have : ¬ p % 64 = j := by omega
    simp [hj, this]
theorem wd_set_far (S : Px) (p i : Nat) (h : i ≠ p / 64) : wd S i = wd (fun x => S x || x == p) i := by
  refine wd_ext fun j hj => ?_
  have : (64 * i + j == p) = false := by rw [beq_eq_false_iff_ne]; omega
  rw [this, Bool.or_false]
theorem wd_or (S T : Px) (i : Nat) : wd S i ||| wd T i = wd (fun x => S x || T x) i := by
  refine Nat.eq_of_testBit_eq fun j => ?_
  rw [Nat.testBit_or, wd_bit, wd_bit, wd_bit]
  cases decide (j < 64) <;> simp
theorem wd_and (S T : Px) (i : Nat) : wd S i &&& wd T i = wd (fun x => S x && T x) i := by
  refine Nat.eq_of_testBit_eq fun j => ?_
  rw [Nat.testBit_and, wd_bit, wd_bit, wd_bit]
  cases decide (j < 64) <;> simp
/-- the words of a set -/
def wds (S : Px) : List Int := (List.range 48).map fun i => (wd S i : Int)
theorem wds_len (S : Px) : (wds S).length = 48 := by simp [wds]
theorem wds_ext {S T : Px} (h : ∀ x, x < 3072 → S x = T x) : wds S = wds T := by
  unfold wds
  refine List.map_congr_left fun i hi => ?_
  have hi2 : i < 48 := by simpa using hi
  rw [wd_ext fun j hj => h _ (by omega)]
theorem wds_set (S : Px) (p : Nat) (hp : p < 3072) : (wds S).set (p / 64) (wd (fun x => S x || x == p) (p / 64) : Int) = wds (fun x => S x || x == p) := by
  refine List.ext_getElem (by simp [wds]) fun i h1 h2 => ?_
  rw [List.getElem_set]
  split
  · next h => subst h; simp [wds]
  · next h => simp only [wds, List.getElem_map, List.getElem_range]; rw [wd_set_far S p i (fun e => h e.symm)]
theorem wds_none : wds (fun _ => false) = List.replicate 48 0 := by
  unfold wds
  rw [List.eq_replicate_iff]
  refine ⟨by simp, fun x hx => ?_⟩
  obtain ⟨i, -, rfl⟩ := List.mem_map.1 hx
  rw [wd_none]
  rfl
/-- a word bit by bit -/
theorem wd_half (S : Px) (p : Nat) : wd S (p / 64) / 2 ^ (p % 64) % 2 = (S p).toNat := by
  have h := wd_bit S (p / 64) (p % 64)
  rw [show decide (p % 64 < 64) = true by simp; omega, Bool.true_and, show 64 * (p / 64) + p % 64 = p by omega] at h
  rw [← h, Nat.testBit_eq_decide_div_mod_eq]
  have : wd S (p / 64) / 2 ^ (p % 64) % 2 = 0 ∨ wd S (p / 64) / 2 ^ (p % 64) % 2 = 1 := by omega
  rcases this with h | h <;> rw [h] <;> rfl
/-- how many of the first n pixels behind a are there -/
def cntP (S : Px) (a : Nat) : Nat → Nat
  | 0 => 0
  | n + 1 => cntP S a n + (S (a + n)).toNat
theorem cntP_le (S : Px) (a : Nat) : ∀ n, cntP S a n ≤ n
  | 0 => Nat.le_refl _
  | n + 1 => by have := cntP_le S a n; simp only [cntP]; cases S (a + n) <;> simp <;> omega
/-- all of the first n pixels behind a -/
def allP (S : Px) (a n : Nat) : Bool := decide (cntP S a n = n)
def anyP (S : Px) (a n : Nat) : Bool := decide (0 < cntP S a n)
theorem allP_iff {S : Px} {a n : Nat} : allP S a n = true ↔ ∀ k, k < n → S (a + k) = true := by
  unfold allP
  rw [decide_eq_true_eq]
  induction n with
  | zero => simp [cntP]
  | succ n ih =>
    have := cntP_le S a n
    simp only [cntP]
    constructor
    · intro h k hk
      cases hs : S (a + n)
      · rw [hs] at h; simp at h; omega
      · rw [hs] at h
        rcases Nat.lt_succ_iff_lt_or_eq.1 hk with h' | rfl
        · exact ih.1 (by simpa using h) k h'
        · exact hs
    · intro h
      rw [h n (by omega), ih.2 (fun k hk => h k (by omega))]
      rfl
theorem anyP_no {S : Px} {a n : Nat} : anyP S a n = false ↔ ∀ k, k < n → S (a + k) = false := by
  unfold anyP
  rw [decide_eq_false_iff_not]
  induction n with
  | zero => simp [cntP]
  | succ n ih =>
    simp only [cntP]
    constructor
    · intro h k hk
      cases hs : S (a + n)
      · rw [hs] at h
        rcases Nat.lt_succ_iff_lt_or_eq.1 hk with h' | rfl
        · exact ih.1 (by simpa using h) k h'
        · exact hs
      · rw [hs] at h; simp at h
    · intro h
      rw [h n (by omega)]
      have := ih.2 (fun k hk => h k (by omega))
      simpa using this
theorem cntP_congr {S T : Px} {a : Nat} : ∀ {n : Nat}, (∀ k, k < n → S (a + k) = T (a + k)) → cntP S a n = cntP T a n
  | 0, _ => rfl
  | n + 1, h => by simp only [cntP]; rw [cntP_congr (fun k hk => h k (by omega)), h n (by omega)]
theorem cntP_add (S : Px) (a : Nat) (m : Nat) : ∀ n, cntP S a (m + n) = cntP S a m + cntP S (a + m) n
  | 0 => rfl
  | n + 1 => by rw [← Nat.add_assoc]; simp only [cntP]; rw [cntP_add S a m n, Nat.add_assoc, show a + m + n = a + (m + n) by omega]
end Go.Proofs.Ytgbpmleipdecgaa

/- The cells of a set of pixels, from the greatest on, and the scan of the reference: plain. -/
namespace Go.Proofs.Ytgbpmleipdecgaa
set_option linter.unusedSimpArgs false
set_option linter.unusedVariables false

def lookC (S : Px) : Nat → Nat → List (Int × Int)
  | 0, p => if allP S p 1 then [(4, (p : Int))] else []
  | h + 1, p => if allP S (p * 4 ^ (h + 1)) (4 ^ (h + 1)) then [(3 - (h : Int), (p : Int))] else lookC S h (4 * p) ++ (lookC S h (4 * p + 1) ++ (lookC S h (4 * p + 2) ++ lookC S h (4 * p + 3)))
def cellsP (S : Px) : List (Int × Int) := (List.range 12).flatMap (lookC S 4)
theorem four_pos (h : Nat) : 0 < 4 ^ h := Nat.pow_pos (by omega)
theorem look_full {S : Px} {h p : Nat} (e : allP S (p * 4 ^ h) (4 ^ h) = true) : lookC S h p = [(4 - (h : Int), (p : Int))] := by
  cases h with
  | zero => rw [Nat.pow_zero, Nat.mul_one] at e; simp [lookC, e]
  | succ h => simp only [lookC]; rw [if_pos e]; congr 2; omega
theorem look_split {S : Px} {h p : Nat} (e : allP S (p * 4 ^ (h + 1)) (4 ^ (h + 1)) = false) : lookC S (h + 1) p = lookC S h (4 * p) ++ (lookC S h (4 * p + 1) ++ (lookC S h (4 * p + 2) ++ lookC S h (4 * p + 3))) := by
  simp only [lookC]; rw [e]; rfl
theorem look_leaf {S : Px} {p : Nat} (e : allP S (p * 4 ^ 0) (4 ^ 0) = false) : lookC S 0 p = [] := by
  rw [Nat.pow_zero, Nat.mul_one] at e; simp [lookC, e]
theorem quarter (p h k : Nat) : (4 * p + k) * 4 ^ h = p * 4 ^ (h + 1) + k * 4 ^ h := by
  rw [Nat.add_mul, Nat.pow_succ, Nat.mul_comm 4 p, Nat.mul_assoc, Nat.mul_comm 4 (4 ^ h)]
theorem look_none {S : Px} : ∀ {h p : Nat}, anyP S (p * 4 ^ h) (4 ^ h) = false → lookC S h p = []
  | 0, p, e => by
    refine look_leaf ?_
    cases ha : allP S (p * 4 ^ 0) (4 ^ 0)
    · rfl
    · have h1 := allP_iff.1 ha 0 (by simp)
      rw [anyP_no.1 e 0 (by simp)] at h1; cases h1
  | h + 1, p, e => by
    have hf : allP S (p * 4 ^ (h + 1)) (4 ^ (h + 1)) = false := by
      cases ha : allP S (p * 4 ^ (h + 1)) (4 ^ (h + 1))
      · rfl
      · have h1 := allP_iff.1 ha 0 (four_pos _)
        rw [anyP_no.1 e 0 (four_pos _)] at h1; cases h1
    rw [look_split hf]
    have key : ∀ k, k < 4 → lookC S h (4 * p + k) = [] := fun k hk => look_none (anyP_no.2 fun j hj => by
      rw [quarter, Nat.add_assoc]
      refine anyP_no.1 e _ ?_
      have h4 : 4 ^ (h + 1) = 4 * 4 ^ h := by rw [Nat.pow_succ, Nat.mul_comm]
      rw [h4]
      have := Nat.mul_le_mul_right (4 ^ h) (show k + 1 ≤ 4 by omega)
      rw [Nat.add_mul, Nat.one_mul] at this
      omega)
    rw [show lookC S h (4 * p) = [] from key 0 (by omega), key 1 (by omega), key 2 (by omega), key 3 (by omega)]
    rfl
theorem look_mem {S : Px} {c : Int × Int} : ∀ {h p : Nat}, c ∈ lookC S h p → ∃ h' q : Nat, h' ≤ h ∧ c = (4 - (h' : Int), (q : Int)) ∧ q / 4 ^ (h - h') = p ∧ allP S (q * 4 ^ h') (4 ^ h') = true
  | 0, p, hc => by
    cases ha : allP S (p * 4 ^ 0) (4 ^ 0)
    · rw [look_leaf ha] at hc; cases hc
    · rw [look_full ha] at hc
      exact ⟨0, p, Nat.le_refl _, by simpa using hc, by simp, ha⟩
  | h + 1, p, hc => by
    cases ha : allP S (p * 4 ^ (h + 1)) (4 ^ (h + 1))
    · rw [look_split ha] at hc
      have key : ∃ k, k < 4 ∧ c ∈ lookC S h (4 * p + k) := by
        simp only [List.mem_append] at hc
        rcases hc with h1 | h1 | h1 | h1
        · exact ⟨0, by omega, h1⟩
        · exact ⟨1, by omega, h1⟩
        · exact ⟨2, by omega, h1⟩
        · exact ⟨3, by omega, h1⟩
      obtain ⟨k, hk, hm⟩ := key
      obtain ⟨h', q, h1, h2, h3, h4⟩ := look_mem hm
      refine ⟨h', q, by omega, h2, ?_, h4⟩
      rw [show h + 1 - h' = (h - h') + 1 by omega, Nat.pow_succ, ← Nat.div_div_eq_div_mul, h3]
      omega
    · rw [look_full ha] at hc
      exact ⟨h + 1, p, Nat.le_refl _, by simpa using hc, by simp, ha⟩
/-- is a pixel in a cell -/
def inC (c : Int × Int) (x : Nat) : Bool := decide (((x / 4 ^ (4 - c.1).toNat : Nat) : Int) = c.2)
def uniP (l : List (Int × Int)) : Px := fun x => l.any fun c => inC c x
theorem inC_mk (h q x : Nat) : inC (4 - (h : Int), (q : Int)) x = decide (x / 4 ^ h = q) := by
  unfold inC
  rw [show ((4 : Int) - (4 - (h : Int))).toNat = h by omega, decide_eq_decide]
  constructor <;> intro h <;> simp only at * <;> omega
theorem look_out {S : Px} {h p x : Nat} (hx : x / 4 ^ h ≠ p) : (lookC S h p).any (fun c => inC c x) = false := by
  rw [List.any_eq_false]
  intro c hc
  obtain ⟨h', q, h1, rfl, h3, -⟩ := look_mem hc
  rw [inC_mk, decide_eq_true_eq]
  intro e
  refine hx ?_
  rw [← h3, ← e, Nat.div_div_eq_div_mul, ← Nat.pow_add, show h' + (h - h') = h by omega]
theorem allP_false {S : Px} {x : Nat} (h : allP S (x * 4 ^ 0) (4 ^ 0) = false) : S x = false := by
  cases hs : S x
  · rfl
  · have : allP S (x * 4 ^ 0) (4 ^ 0) = true := allP_iff.2 fun k hk => by
      have : k = 0 := by simpa using hk
      subst this
      simpa using hs
    rw [this] at h; cases h
theorem look_uni {S : Px} {x : Nat} : ∀ {h p : Nat}, x / 4 ^ h = p → (lookC S h p).any (fun c => inC c x) = S x
  | 0, p, e => by
    rw [Nat.pow_zero, Nat.div_one] at e
    subst e
    cases ha : allP S (x * 4 ^ 0) (4 ^ 0)
    · rw [look_leaf ha, allP_false ha]; rfl
    · rw [look_full ha]
      have := allP_iff.1 ha 0 (by simp)
      simp only [List.any_cons, List.any_nil, inC_mk, Bool.or_false]
      simpa using this.symm
  | h + 1, p, e => by
    cases ha : allP S (p * 4 ^ (h + 1)) (4 ^ (h + 1))
    · rw [look_split ha]
      simp only [List.any_append]
      have hq : x / 4 ^ h / 4 = p := by rw [Nat.div_div_eq_div_mul, ← Nat.pow_succ]; exact e
      have hk : x / 4 ^ h = 4 * p ∨ x / 4 ^ h = 4 * p + 1 ∨ x / 4 ^ h = 4 * p + 2 ∨ x / 4 ^ h = 4 * p + 3 := by omega
      rcases hk with h1 | h1 | h1 | h1
      · rw [look_uni h1, look_out (p := 4 * p + 1) (by omega), look_out (p := 4 * p + 2) (by omega), look_out (p := 4 * p + 3) (by omega)]; simp
      · rw [look_uni h1, look_out (p := 4 * p) (by omega), look_out (p := 4 * p + 2) (by omega), look_out (p := 4 * p + 3) (by omega)]; simp
      · rw [look_uni h1, look_out (p := 4 * p) (by omega), look_out (p := 4 * p + 1) (by omega), look_out (p := 4 * p + 3) (by omega)]; simp
      · rw [look_uni h1, look_out (p := 4 * p) (by omega), look_out (p := 4 * p + 1) (by omega), look_out (p := 4 * p + 2) (by omega)]; simp
    · rw [look_full ha]
      have h1 : p * 4 ^ (h + 1) ≤ x := by rw [← e]; exact Nat.div_mul_le_self x _
      have h2 : x < (p + 1) * 4 ^ (h + 1) := by rw [← e, Nat.mul_comm]; exact Nat.lt_mul_div_succ x (four_pos _)
      rw [Nat.add_mul, Nat.one_mul] at h2
      have := allP_iff.1 ha (x - p * 4 ^ (h + 1)) (by omega)
      rw [show p * 4 ^ (h + 1) + (x - p * 4 ^ (h + 1)) = x by omega] at this
      simp only [List.any_cons, List.any_nil, inC_mk, Bool.or_false, e, this]
      simp
theorem cells_uni (S : Px) {x : Nat} (hx : x < 3072) : uniP (cellsP S) x = S x := by
  unfold uniP cellsP
  rw [List.any_flatMap]
  have h4 : (4 : Nat) ^ 4 = 256 := by decide
  cases hs : S x
  · rw [List.any_eq_false]
    intro f _
    by_cases hf : x / 4 ^ 4 = f
    · rw [look_uni hf, hs]; simp
    · rw [look_out hf]; simp
  · rw [List.any_eq_true]
    exact ⟨x / 4 ^ 4, by simp; omega, by rw [look_uni rfl]; exact hs⟩
theorem allP_congr {S T : Px} {a n : Nat} (h : ∀ k, k < n → S (a + k) = T (a + k)) : allP S a n = allP T a n := by
  unfold allP; rw [cntP_congr h]
theorem look_congr {S T : Px} : ∀ {h p : Nat}, (∀ k, k < 4 ^ h → S (p * 4 ^ h + k) = T (p * 4 ^ h + k)) → lookC S h p = lookC T h p
  | 0, p, e => by
    have e2 := allP_congr e
    rw [Nat.pow_zero, Nat.mul_one] at e2
    simp only [lookC, e2]
  | h + 1, p, e => by
    have key : ∀ k, k < 4 → lookC S h (4 * p + k) = lookC T h (4 * p + k) := fun k hk => look_congr fun j hj => by
      rw [quarter, Nat.add_assoc]
      refine e _ ?_
      have h4 : 4 ^ (h + 1) = 4 * 4 ^ h := by rw [Nat.pow_succ, Nat.mul_comm]
      rw [h4]
      have := Nat.mul_le_mul_right (4 ^ h) (show k + 1 ≤ 4 by omega)
      rw [Nat.add_mul, Nat.one_mul] at this
      omega
    simp only [lookC]
    rw [allP_congr e, show lookC S h (4 * p) = lookC T h (4 * p) from key 0 (by omega), key 1 (by omega), key 2 (by omega), key 3 (by omega)]
theorem cells_congr {S T : Px} (h : ∀ x, x < 3072 → S x = T x) : cellsP S = cellsP T := by
  have key : (List.range 12).map (lookC S 4) = (List.range 12).map (lookC T 4) := List.map_congr_left fun f hf => look_congr fun k hk => by
    have hf2 : f < 12 := by simpa using hf
    have h4 : (4 : Nat) ^ 4 = 256 := by decide
    rw [h4] at hk ⊢
    exact h _ (by omega)
  unfold cellsP
  rw [List.flatMap_def, List.flatMap_def, key]

/-- the greatest whole cell that begins at a pixel -/
def bestH (S : Px) (p : Nat) : Nat → Nat
  | 0 => 0
  | h + 1 => if p % 4 ^ (h + 1) = 0 ∧ allP S p (4 ^ (h + 1)) = true then h + 1 else bestH S p h
theorem bestH_is {S : Px} {a h : Nat} (h1 : a % 4 ^ h = 0) (h2 : allP S a (4 ^ h) = true) : ∀ {n}, h ≤ n → (∀ h', h < h' → h' ≤ n → a % 4 ^ h' = 0 → allP S a (4 ^ h') = false) → bestH S a n = h
  | 0, hn, _ => by simp only [bestH]; omega
  | n + 1, hn, hb => by
    simp only [bestH]
    by_cases e : h = n + 1
    · subst e; rw [if_pos ⟨h1, h2⟩]
    · rw [if_neg, bestH_is h1 h2 (n := n) (by omega) (fun h' q1 q2 q3 => hb h' q1 (by omega) q3)]
      rintro ⟨q1, q2⟩
      rw [hb (n + 1) (by omega) (by omega) q1] at q2
      cases q2
def restC (S : Px) (p : Nat) : List (Int × Int) :=
  if h : p < 3072 then
    if S p then (4 - (bestH S p 4 : Int), ((p / 4 ^ bestH S p 4 : Nat) : Int)) :: restC S (p + 4 ^ bestH S p 4) else restC S (p + 1)
  else []
termination_by 3072 - p
decreasing_by
  · have := four_pos (bestH S p 4); omega
  · omega
theorem rest_end {S : Px} {p : Nat} (h : 3072 ≤ p) : restC S p = [] := by
  rw [restC, dif_neg (by omega)]
theorem rest_no {S : Px} {p : Nat} (h : p < 3072) (hs : S p = false) : restC S p = restC S (p + 1) := by
  rw [restC, dif_pos h, if_neg (by rw [hs]; simp)]
theorem rest_yes {S : Px} {p : Nat} (h : p < 3072) (hs : S p = true) : restC S p = (4 - (bestH S p 4 : Int), ((p / 4 ^ bestH S p 4 : Nat) : Int)) :: restC S (p + 4 ^ bestH S p 4) := by
  rw [restC, dif_pos h, if_pos hs]
theorem rest_block {S : Px} : ∀ {h q : Nat}, h ≤ 4 → (q + 1) * 4 ^ h ≤ 3072 → (∀ h', h < h' → h' ≤ 4 → q * 4 ^ h % 4 ^ h' = 0 → allP S (q * 4 ^ h) (4 ^ h') = false) →
    restC S (q * 4 ^ h) = lookC S h q ++ restC S ((q + 1) * 4 ^ h)
  | 0, q, h4, hq, hb => by
    rw [Nat.pow_zero, Nat.mul_one] at hq hb ⊢
    rw [Nat.mul_one]
    cases hs : S q
    · rw [rest_no (by omega) hs]
      have ha : allP S (q * 4 ^ 0) (4 ^ 0) = false := by
        cases ha : allP S (q * 4 ^ 0) (4 ^ 0)
        · rfl
        · have := allP_iff.1 ha 0 (by simp)
          rw [Nat.pow_zero, Nat.mul_one, Nat.add_zero, hs] at this; cases this
      rw [look_leaf ha]; rfl
    · have ha : allP S (q * 4 ^ 0) (4 ^ 0) = true := allP_iff.2 fun k hk => by
        have : k = 0 := by simpa using hk
        subst this
        simpa using hs
      have hbst : bestH S q 4 = 0 := bestH_is (h := 0) (by simp [Nat.mod_one]) (by simpa using ha) (by omega) hb
      rw [rest_yes (by omega) hs, look_full ha, hbst]
      simp
  | h + 1, q, h4, hq, hb => by
    have hp := four_pos h
    have hp1 : 4 ^ (h + 1) = 4 * 4 ^ h := by rw [Nat.pow_succ, Nat.mul_comm]
    have hq2 := hq
    rw [Nat.add_mul, Nat.one_mul] at hq2
    cases ha : allP S (q * 4 ^ (h + 1)) (4 ^ (h + 1))
    · have hqk : ∀ k, (4 * q + k) * 4 ^ h = q * 4 ^ (h + 1) + k * 4 ^ h := quarter q h
      have key : ∀ k, k < 4 → restC S ((4 * q + k) * 4 ^ h) = lookC S h (4 * q + k) ++ restC S ((4 * q + (k + 1)) * 4 ^ h) := fun k hk => by
        refine rest_block (by omega) ?_ fun h' q1 q2 q3 => ?_
        · have := hqk (k + 1)
          rw [show 4 * q + k + 1 = 4 * q + (k + 1) by omega, this]
          have := Nat.mul_le_mul_right (4 ^ h) (show k + 1 ≤ 4 by omega)
          omega
        · by_cases hk0 : k = 0
          · subst hk0
            have e0 : (4 * q + 0) * 4 ^ h = q * 4 ^ (h + 1) := by rw [hqk]; simp
            rw [e0] at q3 ⊢
            by_cases e : h' = h + 1
            · subst e; exact ha
            · exact hb h' (by omega) q2 q3
          · exfalso
            have hd : 4 ^ (h + 1) ∣ (4 * q + k) * 4 ^ h := Nat.dvd_trans (Nat.pow_dvd_pow 4 (show h + 1 ≤ h' by omega)) (Nat.dvd_of_mod_eq_zero q3)
            rw [hp1] at hd
            have := Nat.dvd_of_mul_dvd_mul_right hp hd
            omega
      rw [look_split ha]
      have e0 : q * 4 ^ (h + 1) = (4 * q + 0) * 4 ^ h := by rw [hqk]; simp
      have e4 : (q + 1) * 4 ^ (h + 1) = (4 * q + (3 + 1)) * 4 ^ h := by rw [hqk, Nat.add_mul, Nat.one_mul, hp1]
      rw [e0, e4, key 0 (by omega), key 1 (by omega), key 2 (by omega), key 3 (by omega)]
      simp [List.append_assoc]
    · have hs : S (q * 4 ^ (h + 1)) = true := by have := allP_iff.1 ha 0 (four_pos _); simpa using this
      have hbst : bestH S (q * 4 ^ (h + 1)) 4 = h + 1 := bestH_is (h := h + 1) (by simp) ha (by omega) hb
      rw [rest_yes (by have := four_pos (h + 1); omega) hs, look_full ha, hbst, Nat.mul_div_cancel _ (four_pos _), Nat.add_mul, Nat.one_mul]
      rfl
theorem rest_cells (S : Px) : restC S 0 = cellsP S := by
  have key : ∀ f, f < 12 → restC S (f * 4 ^ 4) = lookC S 4 f ++ restC S ((f + 1) * 4 ^ 4) := fun f hf => rest_block (by omega) (by
    have h4 : (4 : Nat) ^ 4 = 256 := by decide
    rw [h4]; omega) (fun h' q1 q2 _ => by omega)
  unfold cellsP
  rw [show List.range 12 = [0, 1, 2, 3, 4, 5, 6, 7, 8, 9, 10, 11] by decide]
  simp only [List.flatMap_cons, List.flatMap_nil]
  have k0 := key 0 (by omega)
  rw [Nat.zero_mul] at k0
  rw [k0, key 1 (by omega), key 2 (by omega), key 3 (by omega), key 4 (by omega), key 5 (by omega), key 6 (by omega), key 7 (by omega), key 8 (by omega), key 9 (by omega), key 10 (by omega), key 11 (by omega), rest_end (p := (11 + 1) * 4 ^ 4) (by decide)]
theorem bestH_spec (S : Px) (p : Nat) (hs : S p = true) : ∀ n, p % 4 ^ bestH S p n = 0 ∧ allP S p (4 ^ bestH S p n) = true ∧ bestH S p n ≤ n ∧ ∀ h', bestH S p n < h' → h' ≤ n → p % 4 ^ h' = 0 → allP S p (4 ^ h') = false
  | 0 => ⟨by simp [bestH, Nat.mod_one], allP_iff.2 fun k hk => by
      have : k = 0 := by simpa [bestH] using hk
      subst this; simpa using hs, Nat.le_refl _, fun h' q1 q2 _ => by omega⟩
  | n + 1 => by
    obtain ⟨h1, h2, h3, h4⟩ := bestH_spec S p hs n
    simp only [bestH]
    split
    · next h => exact ⟨h.1, h.2, Nat.le_refl _, fun h' q1 q2 _ => by omega⟩
    · next h =>
      refine ⟨h1, h2, by omega, fun h' q1 q2 q3 => ?_⟩
      by_cases e : h' = n + 1
      · subst e
        cases ha : allP S p (4 ^ (n + 1))
        · rfl
        · exact absurd ⟨q3, ha⟩ h
      · exact h4 h' q1 (by omega) q3
end Go.Proofs.Ytgbpmleipdecgaa
