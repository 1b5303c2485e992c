/- How many bits a word has, counted in fields: plain. -/
import Derived.Test.YtgbpmleipdecgaaSkyCa
namespace Go.Proofs.Ytgbpmleipdecgaa
set_option linter.unusedSimpArgs false
set_option linter.unusedVariables false

def byt : List Nat → Nat
  | [] => 0
  | d :: l => d + 256 * byt l
theorem land_byte {a b c d : Nat} (ha : a < 256) (hc : c < 256) : (a + 256 * b) &&& (c + 256 * d) = (a &&& c) + 256 * (b &&& d) := by
  refine Nat.eq_of_testBit_eq fun j => ?_
  have h8 : (256 : Nat) = 2 ^ 8 := by decide
  have hac : a &&& c < 2 ^ 8 := Nat.lt_of_le_of_lt Nat.and_le_left (by rw [← h8]; exact ha)
  have e1 : ∀ x y : Nat, x + 256 * y = 2 ^ 8 * y + x := fun x y => by rw [h8, Nat.add_comm]
  rw [Nat.testBit_and, e1, e1, e1, Nat.testBit_two_pow_mul_add _ (by rw [← h8]; exact ha), Nat.testBit_two_pow_mul_add _ (by rw [← h8]; exact hc), Nat.testBit_two_pow_mul_add _ hac]
  split
  · rw [Nat.testBit_and]
  · rw [Nat.testBit_and]
def msk (m : Nat) : Nat → Nat
  | 0 => 0
  | n + 1 => m + 256 * msk m n
def b1 (d : Nat) : Nat := (d / 2 &&& 85) + (d &&& 85)
def b2 (d : Nat) : Nat := (d / 4 &&& 51) + (d &&& 51)
def b3 (d : Nat) : Nat := (d / 16 + d) &&& 15
def s1 (n x : Nat) : Nat := (x / 2 &&& msk 85 n) + (x &&& msk 85 n)
def s2 (n x : Nat) : Nat := (x / 4 &&& msk 51 n) + (x &&& msk 51 n)
def s3 (n x : Nat) : Nat := (x / 16 + x) &&& msk 15 n
theorem fin1 : ∀ d : Fin 256, ∀ e : Fin 2, (d.val / 2 + 128 * e.val) &&& 85 = d.val / 2 &&& 85 := by decide +kernel
theorem fin2 : ∀ d : Fin 256, ∀ e : Fin 4, (d.val / 4 + 64 * e.val) &&& 51 = d.val / 4 &&& 51 := by decide +kernel
theorem fin3 : ∀ d : Fin 69, ∀ e : Fin 5, (d.val / 16 + d.val + 16 * e.val) &&& 15 = (d.val / 16 + d.val) &&& 15 := by decide +kernel
theorem fin4 : ∀ d : Fin 256, b1 d.val < 256 ∧ b2 (b1 d.val) < 69 ∧ b2 (b1 d.val) % 16 < 5 ∧ b3 (b2 (b1 d.val)) ≤ 8 := by decide +kernel
theorem step1 : ∀ l : List Nat, (∀ d ∈ l, d < 256) → s1 l.length (byt l) = byt (l.map b1)
  | [], _ => by simp [s1, byt, msk]
  | d :: l, h => by
    have hd : d < 256 := h d (by simp)
    have ih := step1 l (fun x hx => h x (by simp [hx]))
    have hf := fin1 ⟨d, hd⟩ ⟨byt l % 2, Nat.mod_lt _ (by omega)⟩
    simp only at hf
    simp only [s1, byt, msk, List.length_cons, List.map_cons] at *
    rw [show (d + 256 * byt l) / 2 = (d / 2 + 128 * (byt l % 2)) + 256 * (byt l / 2) by omega, land_byte (by omega) (by omega), land_byte hd (by omega), hf, ← ih, b1]
    omega
theorem step2 : ∀ l : List Nat, (∀ d ∈ l, d < 256) → s2 l.length (byt l) = byt (l.map b2)
  | [], _ => by simp [s2, byt, msk]
  | d :: l, h => by
    have hd : d < 256 := h d (by simp)
    have ih := step2 l (fun x hx => h x (by simp [hx]))
    have hf := fin2 ⟨d, hd⟩ ⟨byt l % 4, Nat.mod_lt _ (by omega)⟩
    simp only at hf
    simp only [s2, byt, msk, List.length_cons, List.map_cons] at *
    rw [show (d + 256 * byt l) / 4 = (d / 4 + 64 * (byt l % 4)) + 256 * (byt l / 4) by omega, land_byte (by omega) (by omega), land_byte hd (by omega), hf, ← ih, b2]
    omega
theorem byt_mod (l : List Nat) (h : ∀ d ∈ l, d < 69 ∧ d % 16 < 5) : byt l % 16 < 5 := by
  cases l with
  | nil => simp [byt]
  | cons d l => have := (h d (by simp)).2; simp only [byt]; omega
theorem step3 : ∀ l : List Nat, (∀ d ∈ l, d < 69 ∧ d % 16 < 5) → s3 l.length (byt l) = byt (l.map b3)
  | [], _ => by simp [s3, byt, msk]
  | d :: l, h => by
    have hd : d < 69 := (h d (by simp)).1
    have h2 : ∀ x ∈ l, x < 69 ∧ x % 16 < 5 := fun x hx => h x (by simp [hx])
    have ih := step3 l h2
    have hm := byt_mod l h2
    have hf := fin3 ⟨d, hd⟩ ⟨byt l % 16, hm⟩
    simp only at hf
    simp only [s3, byt, msk, List.length_cons, List.map_cons] at *
    rw [show (d + 256 * byt l) / 16 + (d + 256 * byt l) = (d / 16 + d + 16 * (byt l % 16)) + 256 * (byt l / 16 + byt l) by omega, land_byte (by omega) (by omega), hf, ih, b3]
/-- the last steps -/
def s4 (x : Nat) : Nat := x + x / 256
def s5 (x : Nat) : Nat := x + x / 65536
def s6 (x : Nat) : Nat := x + x / 4294967296
theorem step4 (a b c d e f g h : Nat) (ha : a ≤ 8) (hb : b ≤ 8) (hc : c ≤ 8) (hd : d ≤ 8) (he : e ≤ 8) (hf : f ≤ 8) (hg : g ≤ 8) (hh : h ≤ 8) :
    s4 (byt [a, b, c, d, e, f, g, h]) < 18446744073709551616 ∧ s5 (s4 (byt [a, b, c, d, e, f, g, h])) < 18446744073709551616 ∧ s6 (s5 (s4 (byt [a, b, c, d, e, f, g, h]))) < 9223372036854775808 ∧ s6 (s5 (s4 (byt [a, b, c, d, e, f, g, h]))) % 128 = a + b + c + d + e + f + g + h := by
  have e1 : s4 (byt [a, b, c, d, e, f, g, h]) = byt [a + b, b + c, c + d, d + e, e + f, f + g, g + h, h] := by
    simp only [s4, byt]; omega
  have e2 : s5 (byt [a + b, b + c, c + d, d + e, e + f, f + g, g + h, h]) = byt [a + b + c + d, b + c + d + e, c + d + e + f, d + e + f + g, e + f + g + h, f + g + h, g + h, h] := by
    simp only [s5, byt]; omega
  have e3 : s6 (byt [a + b + c + d, b + c + d + e, c + d + e + f, d + e + f + g, e + f + g + h, f + g + h, g + h, h]) = byt [a + b + c + d + e + f + g + h, b + c + d + e + f + g + h, c + d + e + f + g + h, d + e + f + g + h, e + f + g + h, f + g + h, g + h, h] := by
    simp only [s6, byt]; omega
  rw [e1, e2, e3]
  simp only [byt]
  omega
theorem bnF_add (f : Nat → Bool) (m : Nat) : ∀ n, bnF f (m + n) = bnF f m + 2 ^ m * bnF (fun j => f (m + j)) n
  | 0 => by simp [bnF]
  | n + 1 => by
    rw [← Nat.add_assoc]
    simp only [bnF]
    rw [bnF_add f m n, Nat.mul_add, Nat.pow_add]
    simp only [Nat.mul_assoc]
    omega
def pop8 (d : Nat) : Nat := b3 (b2 (b1 d))
theorem pop_fin : ∀ b0 b1 b2 b3 b4 b5 b6 b7 : Bool, pop8 (2 ^ 7 * b7.toNat + (2 ^ 6 * b6.toNat + (2 ^ 5 * b5.toNat + (2 ^ 4 * b4.toNat + (2 ^ 3 * b3.toNat + (2 ^ 2 * b2.toNat + (2 ^ 1 * b1.toNat + (2 ^ 0 * b0.toNat + 0)))))))) = b0.toNat + b1.toNat + b2.toNat + b3.toNat + b4.toNat + b5.toNat + b6.toNat + b7.toNat := by decide +kernel
theorem pop_byte (S : Px) (a : Nat) : pop8 (bnF (fun j => S (a + j)) 8) = cntP S a 8 := by
  simp only [bnF, cntP]
  rw [pop_fin]
  omega
theorem byte_lt (S : Px) (a : Nat) : bnF (fun j => S (a + j)) 8 < 256 := bnF_lt _ 8
theorem wd_bytes (S : Px) (i : Nat) : wd S i = byt [bnF (fun j => S (64 * i + j)) 8, bnF (fun j => S (64 * i + 8 + j)) 8, bnF (fun j => S (64 * i + 16 + j)) 8, bnF (fun j => S (64 * i + 24 + j)) 8, bnF (fun j => S (64 * i + 32 + j)) 8, bnF (fun j => S (64 * i + 40 + j)) 8, bnF (fun j => S (64 * i + 48 + j)) 8, bnF (fun j => S (64 * i + 56 + j)) 8] := by
  unfold wd
  have key : ∀ (f : Nat → Bool), bnF f 64 = byt [bnF f 8, bnF (fun j => f (8 + j)) 8, bnF (fun j => f (16 + j)) 8, bnF (fun j => f (24 + j)) 8, bnF (fun j => f (32 + j)) 8, bnF (fun j => f (40 + j)) 8, bnF (fun j => f (48 + j)) 8, bnF (fun j => f (56 + j)) 8] := by
    intro f
    have e0 := bnF_add f 8 56
    have e1 := bnF_add (fun j => f (8 + j)) 8 48
    have e2 := bnF_add (fun j => f (16 + j)) 8 40
    have e3 := bnF_add (fun j => f (24 + j)) 8 32
    have e4 := bnF_add (fun j => f (32 + j)) 8 24
    have e5 := bnF_add (fun j => f (40 + j)) 8 16
    have e6 := bnF_add (fun j => f (48 + j)) 8 8
    simp only [← Nat.add_assoc, Nat.reduceAdd, Nat.reducePow] at e0 e1 e2 e3 e4 e5 e6
    simp only [byt, e0, e1, e2, e3, e4, e5, e6]
    omega
  rw [key]
  simp only [Nat.add_assoc]
set_option maxHeartbeats 2000000 in
/-- the count of a word, as its steps compute it -/
theorem pop_word (S : Px) (i : Nat) : let x1 := s1 8 (wd S i); let x2 := s2 8 x1; let x3 := s3 8 x2; x1 < 18446744073709551616 ∧ x2 < 18446744073709551616 ∧ x2 / 16 + x2 < 18446744073709551616 ∧ x3 < 18446744073709551616 ∧
    s4 x3 < 18446744073709551616 ∧ s5 (s4 x3) < 18446744073709551616 ∧ s6 (s5 (s4 x3)) < 9223372036854775808 ∧ s6 (s5 (s4 x3)) % 128 = cntP S (64 * i) 64 := by
  have hw := wd_bytes S i
  have hc : cntP S (64 * i) 64 = cntP S (64 * i) 8 + cntP S (64 * i + 8) 8 + cntP S (64 * i + 16) 8 + cntP S (64 * i + 24) 8 + cntP S (64 * i + 32) 8 + cntP S (64 * i + 40) 8 + cntP S (64 * i + 48) 8 + cntP S (64 * i + 56) 8 := by
    have e0 := cntP_add S (64 * i) 8 56
    have e1 := cntP_add S (64 * i + 8) 8 48
    have e2 := cntP_add S (64 * i + 16) 8 40
    have e3 := cntP_add S (64 * i + 24) 8 32
    have e4 := cntP_add S (64 * i + 32) 8 24
    have e5 := cntP_add S (64 * i + 40) 8 16
    have e6 := cntP_add S (64 * i + 48) 8 8
    simp only [Nat.add_assoc, Nat.reduceAdd] at e0 e1 e2 e3 e4 e5 e6
    omega
  have q0 := pop_byte S (64 * i); have q1 := pop_byte S (64 * i + 8); have q2 := pop_byte S (64 * i + 16); have q3 := pop_byte S (64 * i + 24)
  have q4 := pop_byte S (64 * i + 32); have q5 := pop_byte S (64 * i + 40); have q6 := pop_byte S (64 * i + 48); have q7 := pop_byte S (64 * i + 56)
  have t0 := byte_lt S (64 * i); have t1 := byte_lt S (64 * i + 8); have t2 := byte_lt S (64 * i + 16); have t3 := byte_lt S (64 * i + 24)
  have t4 := byte_lt S (64 * i + 32); have t5 := byte_lt S (64 * i + 40); have t6 := byte_lt S (64 * i + 48); have t7 := byte_lt S (64 * i + 56)
  rw [hc, ← q0, ← q1, ← q2, ← q3, ← q4, ← q5, ← q6, ← q7]
  rw [hw]
  clear hw hc q0 q1 q2 q3 q4 q5 q6 q7
  generalize bnF (fun j => S (64 * i + j)) 8 = d0 at *
  generalize bnF (fun j => S (64 * i + 8 + j)) 8 = d1 at *
  generalize bnF (fun j => S (64 * i + 16 + j)) 8 = d2 at *
  generalize bnF (fun j => S (64 * i + 24 + j)) 8 = d3 at *
  generalize bnF (fun j => S (64 * i + 32 + j)) 8 = d4 at *
  generalize bnF (fun j => S (64 * i + 40 + j)) 8 = d5 at *
  generalize bnF (fun j => S (64 * i + 48 + j)) 8 = d6 at *
  generalize bnF (fun j => S (64 * i + 56 + j)) 8 = d7 at *
  have f0 := fin4 ⟨d0, t0⟩; have f1 := fin4 ⟨d1, t1⟩; have f2 := fin4 ⟨d2, t2⟩; have f3 := fin4 ⟨d3, t3⟩
  have f4 := fin4 ⟨d4, t4⟩; have f5 := fin4 ⟨d5, t5⟩; have f6 := fin4 ⟨d6, t6⟩; have f7 := fin4 ⟨d7, t7⟩
  simp only at f0 f1 f2 f3 f4 f5 f6 f7
  have g1 := step1 [d0, d1, d2, d3, d4, d5, d6, d7] (by simp; omega)
  have g2 := step2 [b1 d0, b1 d1, b1 d2, b1 d3, b1 d4, b1 d5, b1 d6, b1 d7] (by simp; omega)
  have g3 := step3 [b2 (b1 d0), b2 (b1 d1), b2 (b1 d2), b2 (b1 d3), b2 (b1 d4), b2 (b1 d5), b2 (b1 d6), b2 (b1 d7)] (by simp; omega)
  simp only [List.map_cons, List.map_nil, List.length_cons, List.length_nil, Nat.reduceAdd] at g1 g2 g3
  simp only
  rw [g1, g2, g3]
  obtain ⟨k1, k2, k3, k4⟩ := step4 (b3 (b2 (b1 d0))) (b3 (b2 (b1 d1))) (b3 (b2 (b1 d2))) (b3 (b2 (b1 d3))) (b3 (b2 (b1 d4))) (b3 (b2 (b1 d5))) (b3 (b2 (b1 d6))) (b3 (b2 (b1 d7))) f0.2.2.2 f1.2.2.2 f2.2.2.2 f3.2.2.2 f4.2.2.2 f5.2.2.2 f6.2.2.2 f7.2.2.2
  unfold pop8
  refine ⟨?_, ?_, ?_, ?_, k1, k2, k3, k4⟩
  · simp only [byt]; omega
  · simp only [byt]; omega
  · simp only [byt]; omega
  · simp only [byt]; omega
theorem msk_55 : msk 85 8 = 6148914691236517205 := by decide
theorem msk_33 : msk 51 8 = 3689348814741910323 := by decide
theorem msk_0f : msk 15 8 = 1085102592571150095 := by decide
theorem and_127 (x : Nat) : x &&& 127 = x % 128 := Nat.and_two_pow_sub_one_eq_mod x 7
theorem cnt_words (S : Px) : ∀ n, cntP S 0 (64 * n) + cntP S (64 * n) 64 = cntP S 0 (64 * (n + 1)) := fun n => by
  rw [Nat.mul_add, cntP_add S 0 (64 * n), Nat.zero_add]
end Go.Proofs.Ytgbpmleipdecgaa
