/- Walks over the reference of ice: lamps, what is asked, Lamps and Dark. -/
import Derived.Test.YtnodeooammplfaaIceO
import Derived.Test.YtnodeooammplfaaLib4
namespace Go.Proofs.Ytnodeooammplfaa
open Go.RowKit

def fstI (K : List (Nat × Nat)) : List Int := K.map fun x => (x.1 : Int)
def sndI (K : List (Nat × Nat)) : List Int := K.map fun x => (x.2 : Int)
theorem fstI_snoc (K : List (Nat × Nat)) (a m : Nat) : fstI (K ++ [(a, m)]) = fstI K ++ [(a : Int)] := by simp [fstI]
theorem sndI_snoc (K : List (Nat × Nat)) (a m : Nat) : sndI (K ++ [(a, m)]) = sndI K ++ [(m : Int)] := by simp [sndI]
theorem fstI_len (K : List (Nat × Nat)) : (fstI K).length = K.length := by simp [fstI]
theorem sndI_len (K : List (Nat × Nat)) : (sndI K).length = K.length := by simp [sndI]
theorem litL_fst (K : List (Nat × Nat)) : litL (fun x _ => x) K = fstI K := by simp [litL, lmp, fstI]
theorem litL_snd (K : List (Nat × Nat)) : litL (fun _ y => y) K = sndI K := by simp [litL, lmp, sndI]

def RefLampsPost (l : List Int) (s : Int) (w : World) (e : Ending) (w' : World) : Prop :=
  Below w.heap.size w w' ∧ ((lampsO l s = none ∧ e = .returned (.tuple #[.slice none 0 0, .slice none 0 0, .bool false])) ∨ ∃ K v u, lampsO l s = some K ∧ e = .returned (.tuple #[v, u, .bool true]) ∧ OwnI w' w.heap.size 3 v (fstI K) ∧ OwnI w' w.heap.size 3 u (sndI K))

set_option maxRecDepth 100000 in
set_option maxHeartbeats 2000000 in
theorem reflamps_any (A : Option Addr) (c : Nat) (l : List Int) (s : Int) (w : World) (hr : RdI w w.heap.size A l) (hm : ∀ d ∈ l, 0 ≤ d ∧ d ≤ 100) (hl : l.length ≤ 600) (hs : 0 ≤ s) (hs2 : s ≤ 1000000) :
    Calls Try.prog 84 #[.slice A l.length c, .int .i64 s] w (RefLampsPost l s w) := by
  have HR := Lib.hid hr
  have hix : ∀ k, 0 ≤ ix l k ∧ ix l k ≤ 100 := fun k => by
    by_cases hk : k < l.length
    · exact hm _ (ix_mem hk)
    · have hn : l[k]? = none := by rw [List.getElem?_eq_none_iff]; omega
      simp [ix, hn]
  have hnn : ∀ d ∈ l, 0 ≤ d := fun d hd => (hm d hd).1
  have HD := Lib.hid (fun (W : World) (a : Nat) (ha : a ≤ l.length) (hW : Below w.heap.size w W) => refdown_any A c l a s W (hr.on hW) hix hl ha hs hs2)
  have HSELF := Lib.hid (fun m (h : m < l.length) => dn_eq_self hnn hs h)
  have H0 : Hid (∀ w', Below w.heap.size w w' → lampsO l s = none → RefLampsPost l s w (.returned (.tuple #[.slice none 0 0, .slice none 0 0, .bool false])) w') := Lib.hid (fun w' h e => ⟨h, .inl ⟨e, rfl⟩⟩)
  have H1 : Hid (∀ w' K v u, Below w.heap.size w w' → lampsO l s = some K → OwnI w' w.heap.size 3 v (fstI K) → OwnI w' w.heap.size 3 u (sndI K) → RefLampsPost l s w (.returned (.tuple #[v, u, .bool true])) w') := Lib.hid (fun w' K v u h e o p => ⟨h, .inr ⟨K, v, u, e, rfl, o, p⟩⟩)
  have HZ := Lib.hid (lampsAt_zero l s)
  have HN0 := Lib.hid (fun m K => lampsAt_none (l := l) (s := s) (m := m) (K := K))
  have HNX := Lib.hid (fun m K => lampsAt_next (l := l) (s := s) (m := m) (K := K))
  have HEN := Lib.hid (fun m K => lampsAt_end (l := l) (s := s) (m := m) (K := K))
  have HLO := Lib.hid (fun m => dn_lo l m s)
  have HHI := Lib.hid (fun m (h : m ≤ l.length) => dn_hi (l := l) (a := m) (s := s) h)
  have HIX := Lib.hid hix
  clear hr hm hix hnn
  generalize hn : l.length = n at *
  have HNN := Lib.hid hn; clear hn
  go_enter Try.func84, Try.ntmps84
  go_wp2
  go_loopg [4, 5, 7] n (fun kk v v2 u wr => ∃ (m : Nat) (K : List (Nat × Nat)), u = .int .i64 m ∧ m ≤ n ∧ K.length ≤ m ∧ n - m ≤ kk ∧ Hid (LampsAt l s m K) ∧ OwnI wr w.heap.size 3 v (fstI K) ∧ OwnI wr w.heap.size 3 v2 (sndI K) ∧ Apart2 v v2 ∧ Below w.heap.size w wr)
  case atStart => exact ⟨0, [], rfl, by omega, by simp, by omega, HZ, OwnI.nil _ _ _, OwnI.nil _ _ _, Apart2.nil_left _, Below.refl _ _⟩
  case round =>
    obtain ⟨m, K, rfl, hmn, hK, hkk, hQ, hO, hO2, hAp, hB⟩ := hrel
    have HO := Lib.hid hO; have HO2 := Lib.hid hO2; have HAp := Lib.hid hAp; clear hO hO2 hAp
    have HB := Lib.hid hB
    by_cases hlt : m < n
    · obtain ⟨b, o, rfl, hb, q1⟩ := HR.out.at_ (k := m) (by rw [HNN.out]; exact hlt)
      rw [← hB.cell hb] at q1
      have hx := HIX.out m
      have hself := HSELF.out m hlt
      have HD1 := Lib.hid (fun W => HD.out W m hmn)
      have l1 := HLO.out m
      have h1 := HHI.out m hmn
      have hsz := hB.size
      clear hB
      by_cases he : dn l m s = m
      · have hgt := hself.1 he
        have HE := Lib.hid (HN0.out m K hQ.out hlt he)
        clear he l1 h1 hQ hself
        generalize ix l m = x at *
        go_wp2
        refine bodyPost_ret (v := .tuple #[.slice none 0 0, .slice none 0 0, .bool false]) (by simp [results, Try.results84, go_sem]) rfl ?_
        exact H0.out _ HB.out HE.out
      · have hgt : ¬ s < ix l m := fun h => he (hself.2 h)
        have HE := Lib.hid (HNX.out m K hQ.out hlt he)
        have HD2 := Lib.hid (fun W => HD.out W (dn l m s) h1)
        have l2 := HLO.out (dn l m s)
        have h2 := HHI.out (dn l m s) h1
        have hfl := fstI_len K
        have hsl := sndI_len K
        have hne : m < dn l m s := by omega
        clear he hQ hself
        generalize ix l m = x at *
        generalize dn l (dn l m s) s = m2 at *
        generalize dn l m s = a at *
        have hf1 : (fstI K).length ≤ 1000000 := by rw [hfl]; omega
        have hf2 : (sndI K).length ≤ 1000000 := by rw [hsl]; omega
        clear hfl hsl
        go_wp2_with (first
          | (go_at_call 86; first
              | (have := tok2; refine (HD2.out _ hB3).mono ?_; rintro e w3 ⟨rfl, rfl⟩)
              | (refine (HD1.out _ HB.out).mono ?_; rintro e w1 ⟨rfl, rfl⟩))
          | (at_builtin; first
              | (have := tok; refine wp_app_int2 37 rfl (.tmp 27) (.tmp 29) rfl Try.underlying37 infoInt _ w.heap.size _ (sndI K) (m : Int) rfl rfl HOK.out hf2 hs1 ?_; intro v2 w2 hP2 hB2 hS2 hF2; have hB3 := hB1.trans hB2; have HP2 := Lib.hid hP2; have HA2 := Lib.hid ((HA1.out.symm.fresh hF2 HOV.out.block_lt).symm); have HV2 := Lib.hid (HOV.out.spared hS2 HA1.out.symm); clear hP2 hS2 hF2; have tok2 := trivial)
              | ((refine wp_app_int2 37 rfl (.tmp 23) (.tmp 25) rfl Try.underlying37 infoInt _ w.heap.size _ (fstI K) (a : Int) rfl rfl HO.out hf1 hsz ?_); intro v1 w1 hP1 hB1' hS1 hF1; have hB1 := HB.out.trans hB1'; have HOV := Lib.hid hP1; have HA1 := Lib.hid (HAp.out.fresh hF1 HO2.out.block_lt); have HOK := Lib.hid (HO2.out.spared hS1 HAp.out); have hs1 := Nat.le_trans hsz hS1.size; clear hP1 hS1 hF1; have tok := trivial)))
        go_roundg (n - m2)
        case measure => omega
        case rel => exact ⟨m2, K ++ [(a, m)], rfl, by omega, by simp; omega, by omega, HE, by rw [fstI_snoc]; exact HV2.out, by rw [sndI_snoc]; exact HP2.out, HA2.out, hB3⟩
    · obtain rfl : m = n := by omega
      have HE := Lib.hid (HEN.out m K hQ.out (by first | exact Nat.le_refl _ | exact Nat.le_of_eq HNN.out))
      clear hQ
      go_wp2
      refine bodyPost_ret (v := .tuple #[u4, u5, .bool true]) (by simp [results, Try.results84, go_sem]) rfl ?_
      exact H1.out _ _ _ _ HB.out HE.out HO.out HO2.out

theorem refasked_any (A : Option Addr) (c : Nat) (L : List (Int × Int)) (s : Int) (w : World) (hr : RdP w w.heap.size A L) (hl : L.length ≤ 1125899906842624) :
    Calls Try.prog 95 #[.slice A L.length c, .int .i64 s] w fun e w' => e = .returned (.int .i64 (gate (vld L) (btw 0 s 100000))) ∧ w = w' := by
  have HV := Lib.hid (refValid_any A c L w hr hl)
  clear hr
  cases hv : vld L
  · rw [hv] at HV
    clear hv
    go_enter Try.func95, Try.ntmps95
    go_wp2_with (go_at_call 21; refine HV.out.mono ?_; rintro e w' ⟨rfl, rfl⟩)
    go_ret
    exact ⟨rfl, rfl⟩
  · have HB := Lib.hid (fun W => within_any 0 s 100000 W)
    rw [hv] at HV
    cases hs : btw 0 s 100000
    all_goals
      rw [hs] at HB
      clear hs
      go_enter Try.func95, Try.ntmps95
      go_wp2_with (first | (go_at_call 21; refine HV.out.mono ?_; rintro e w' ⟨rfl, rfl⟩) | (go_at_call 64; refine (HB.out _).mono ?_; rintro e w' ⟨rfl, rfl⟩))
      go_ret
      exact ⟨rfl, rfl⟩
end Go.Proofs.Ytnodeooammplfaa
