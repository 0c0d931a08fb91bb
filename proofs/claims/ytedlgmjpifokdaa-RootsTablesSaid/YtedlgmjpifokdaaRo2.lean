/-
  Roots found bit by bit, numbers held against each other by digits, and the first primes. No program is in sight here.
-/
import Derived.Test.YtedlgmjpifokdaaRo
namespace Go.Sym
open Go

/-! ### a root, bit by bit -/
def sr (e G T : Nat) : Nat → Nat
  | 0 => 0
  | j + 1 => if (sr e G T j + 2 ^ (T - 1 - j)) ^ e ≤ G then sr e G T j + 2 ^ (T - 1 - j) else sr e G T j
theorem sr_yes {e G T j : Nat} (h : (sr e G T j + 2 ^ (T - 1 - j)) ^ e ≤ G) : sr e G T (j + 1) = sr e G T j + 2 ^ (T - 1 - j) := if_pos h
theorem sr_no {e G T j : Nat} (h : ¬ (sr e G T j + 2 ^ (T - 1 - j)) ^ e ≤ G) : sr e G T (j + 1) = sr e G T j := if_neg h
theorem sr_dvd (e G T : Nat) : ∀ j, j ≤ T → 2 ^ (T - j) ∣ sr e G T j
  | 0, _ => Nat.dvd_zero _
  | j + 1, h => by
    have ih := sr_dvd e G T j (by omega)
    have h1 : 2 ^ (T - (j + 1)) ∣ sr e G T j := Nat.dvd_trans (Nat.pow_dvd_pow 2 (by omega)) ih
    by_cases hc : (sr e G T j + 2 ^ (T - 1 - j)) ^ e ≤ G
    · rw [sr_yes hc]
      exact (Nat.dvd_add_right h1).2 (by rw [show T - (j + 1) = T - 1 - j by omega]; exact Nat.dvd_refl _)
    · rw [sr_no hc]; exact h1
theorem two_half {T j : Nat} (h : j < T) : 2 ^ (T - j) = 2 ^ (T - 1 - j) + 2 ^ (T - 1 - j) := by
  rw [show T - j = (T - 1 - j) + 1 by omega, Nat.pow_succ]; omega
theorem sr_le (e G T : Nat) : ∀ j, j ≤ T → sr e G T j + 2 ^ (T - j) ≤ 2 ^ T
  | 0, _ => by rw [Nat.sub_zero]; simp [sr]
  | j + 1, h => by
    have ih := sr_le e G T j (by omega)
    rw [two_half (by omega)] at ih
    have hpos := Nat.two_pow_pos (T - 1 - j)
    generalize hx : 2 ^ (T - 1 - j) = x at ih hpos
    by_cases hc : (sr e G T j + 2 ^ (T - 1 - j)) ^ e ≤ G
    · rw [sr_yes hc, show T - (j + 1) = T - 1 - j by omega, hx]; omega
    · rw [sr_no hc, show T - (j + 1) = T - 1 - j by omega, hx]; omega
theorem sr_lo {e G T : Nat} (he : 0 < e) : ∀ j, sr e G T j ^ e ≤ G
  | 0 => by rw [show sr e G T 0 = 0 from rfl, Nat.zero_pow he]; exact Nat.zero_le _
  | j + 1 => by
    by_cases hc : (sr e G T j + 2 ^ (T - 1 - j)) ^ e ≤ G
    · rw [sr_yes hc]; exact hc
    · rw [sr_no hc]; exact sr_lo he j
theorem sr_hi {e G T : Nat} (hG : G < (2 ^ T) ^ e) : ∀ j, j ≤ T → G < (sr e G T j + 2 ^ (T - j)) ^ e
  | 0, _ => by rw [Nat.sub_zero, show sr e G T 0 = 0 from rfl, Nat.zero_add]; exact hG
  | j + 1, h => by
    have ih := sr_hi hG j (by omega)
    by_cases hc : (sr e G T j + 2 ^ (T - 1 - j)) ^ e ≤ G
    · rw [sr_yes hc, show T - (j + 1) = T - 1 - j by omega, Nat.add_assoc, ← two_half (by omega)]; exact ih
    · rw [sr_no hc, show T - (j + 1) = T - 1 - j by omega]; omega
theorem root_unique {e G R S : Nat} (h1 : R ^ e ≤ G) (h2 : G < (R + 1) ^ e) (h3 : S ^ e ≤ G) (h4 : G < (S + 1) ^ e) : R = S := by
  rcases Nat.lt_trichotomy R S with h | h | h
  · have := Nat.pow_le_pow_left (show R + 1 ≤ S from h) e; omega
  · exact h
  · have := Nat.pow_le_pow_left (show S + 1 ≤ R from h) e; omega
def rt (e G : Nat) : Nat := sr e G 80 80
theorem rt_lo {e : Nat} (he : 0 < e) (G : Nat) : rt e G ^ e ≤ G := sr_lo he 80
theorem rt_hi {e G : Nat} (hG : G < (2 ^ 80) ^ e) : G < (rt e G + 1) ^ e := by
  have := sr_hi hG 80 (Nat.le_refl _)
  rwa [Nat.sub_self, Nat.pow_zero] at this
theorem rt_lt {e G : Nat} (he : 0 < e) (T : Nat) (hG : G < (2 ^ T) ^ e) : rt e G < 2 ^ T := by
  have h1 := rt_lo he G
  rcases Nat.lt_or_ge (rt e G) (2 ^ T) with h | h
  · exact h
  · have := Nat.pow_le_pow_left h e; omega
theorem rt_is {e G R : Nat} (he : 0 < e) (hG : G < (2 ^ 80) ^ e) (h1 : R ^ e ≤ G) (h2 : G < (R + 1) ^ e) : rt e G = R := root_unique (rt_lo he G) (rt_hi hG) h1 h2
theorem sr_75 {G : Nat} (hG : G < (2 ^ 75) ^ 3) : sr 3 G 75 75 = rt 3 G := by
  have h := sr_hi hG 75 (Nat.le_refl _)
  rw [Nat.sub_self, Nat.pow_zero] at h
  exact (rt_is (by decide) (Nat.lt_trans hG (by decide)) (sr_lo (by decide) 75) h).symm

/-! ### a bit more -/
theorem add_bit {n i : Nat} (h : 2 ^ (i + 1) ∣ n) : n + 2 ^ i = n ||| 2 ^ i := by
  obtain ⟨q, rfl⟩ := h
  exact Nat.two_pow_add_eq_or_of_lt (Nat.pow_lt_pow_right (by decide) (by omega)) q
theorem limb_get (n k i : Nat) : (limb n k).getLsbD i = (decide (i < 64) && n.testBit (64 * k + i)) := by
  unfold limb
  rw [BitVec.getLsbD_ofNat, Nat.testBit_div_two_pow, Nat.add_comm i]
theorem dig_get (n k i : Nat) : (dig n k).getLsbD i = (decide (i < 16) && n.testBit (16 * k + i)) := by
  unfold dig
  rw [BitVec.getLsbD_ofNat, show (65536 : Nat) = 2 ^ 16 from rfl, Nat.testBit_mod_two_pow, Nat.testBit_div_two_pow, Nat.add_comm i]
  by_cases h : i < 16
  · simp [h, show i < 64 by omega]
  · simp [h]
theorem one_shl (s j : Nat) (hj : j < 64) : (1#64 <<< s).getLsbD j = decide (j = s) := by
  rw [BitVec.getLsbD_shiftLeft]
  have one : (1#64 : BitVec 64).getLsbD (j - s) = decide (j - s = 0) := by
    cases hq : j - s with
    | zero => rfl
    | succ q => rw [BitVec.getLsbD_ofNat, Nat.testBit_succ, show 1 / 2 = 0 from rfl, Nat.zero_testBit]; simp
  rw [one]
  by_cases h : j < s
  · simp [h, hj, show ¬ j = s by omega]
  · by_cases h2 : j = s
    · simp [h2, show s < 64 by omega]
    · simp [h, hj, h2, show ¬ j - s = 0 by omega]
theorem bit_or {n i : Nat} (h : 2 ^ (i + 1) ∣ n) : upd (limb n) (i / 64) (limb n (i / 64) ||| 1#64 <<< (i % 64)) = limb (n + 2 ^ i) := by
  rw [add_bit h]
  funext k
  refine BitVec.eq_of_getLsbD_eq fun j hj => ?_
  rw [limb_get, Nat.testBit_or, Nat.testBit_two_pow]
  by_cases hk : k = i / 64
  · subst hk
    rw [upd_self, BitVec.getLsbD_or, limb_get, one_shl _ _ hj]
    simp only [hj, decide_true, Bool.true_and]
    congr 1
    exact decide_eq_decide.2 (by omega)
  · rw [upd_ne _ _ hk, limb_get]
    simp [hj, show ¬ i = 64 * k + j by omega]
theorem bit_add {n i : Nat} (h : 2 ^ (i + 1) ∣ n) : upd (dig n) (i / 16) (dig n (i / 16) + 1#64 <<< (i % 16)) = dig (n + 2 ^ i) := by
  have zero : n.testBit i = false := by
    obtain ⟨q, rfl⟩ := h
    rw [Nat.testBit_two_pow_mul]
    simp [show ¬ i + 1 ≤ i by omega]
  have hand : dig n (i / 16) &&& 1#64 <<< (i % 16) = 0#64 := by
    refine BitVec.eq_of_getLsbD_eq fun j hj => ?_
    rw [BitVec.getLsbD_and, dig_get, one_shl _ _ hj, BitVec.getLsbD_zero]
    by_cases hq : j = i % 16
    · rw [hq, Nat.div_add_mod, zero]; simp
    · simp [hq]
  rw [add_bit h]
  funext k
  refine BitVec.eq_of_getLsbD_eq fun j hj => ?_
  rw [dig_get, Nat.testBit_or, Nat.testBit_two_pow]
  by_cases hk : k = i / 16
  · subst hk
    rw [upd_self, BitVec.add_eq_or_of_and_eq_zero _ _ hand, BitVec.getLsbD_or, dig_get, one_shl _ _ hj]
    by_cases h2 : j < 16
    · simp only [h2, decide_true, Bool.true_and]
      congr 1
      exact decide_eq_decide.2 (by omega)
    · simp [h2, show ¬ j = i % 16 by omega]
  · rw [upd_ne _ _ hk, dig_get]
    by_cases h2 : j < 16
    · simp [h2, show ¬ i = 16 * k + j by omega]
    · simp [h2]
theorem bit_back (n i : Nat) (u : BitVec 64) : upd (upd (dig n) i (dig n i + u)) i (upd (dig n) i (dig n i + u) i - u) = dig n := by
  funext k
  by_cases hk : k = i
  · subst hk; rw [upd_self, upd_self, BitVec.add_sub_cancel]
  · rw [upd_ne _ _ hk, upd_ne _ _ hk]
theorem limb_first (n : Nat) : limb n 0 = BitVec.ofNat 64 n := by unfold limb; rw [Nat.mul_zero, Nat.pow_zero, Nat.div_one]
theorem four_digits (n : Nat) : dig n 0 + dig n 1 <<< 16 + dig n 2 <<< 32 + dig n 3 <<< 48 = BitVec.ofNat 64 n := by
  apply BitVec.eq_of_toNat_eq
  simp only [BitVec.toNat_add, BitVec.toNat_shiftLeft, dig_toNat, BitVec.toNat_ofNat, Nat.shiftLeft_eq]
  simp only [Nat.reduceMul, Nat.reducePow, Nat.div_one]
  omega

/-! ### which is greater -/
theorem cmp_at {w A B j : Nat} (h : A / 2 ^ (w * (j + 1)) = B / 2 ^ (w * (j + 1))) (hne : ¬ A / 2 ^ (w * j) % 2 ^ w = B / 2 ^ (w * j) % 2 ^ w) : (B / 2 ^ (w * j) % 2 ^ w < A / 2 ^ (w * j) % 2 ^ w) ↔ B < A := by
  rw [pow_up, ← Nat.div_div_eq_div_mul, ← Nat.div_div_eq_div_mul] at h
  have e1 := Nat.div_add_mod (A / 2 ^ (w * j)) (2 ^ w)
  have e2 := Nat.div_add_mod (B / 2 ^ (w * j)) (2 ^ w)
  rw [h] at e1
  generalize 2 ^ w * (B / 2 ^ (w * j) / 2 ^ w) = z at e1 e2
  generalize A / 2 ^ (w * j) % 2 ^ w = da at e1 hne
  generalize B / 2 ^ (w * j) % 2 ^ w = db at e2 hne
  constructor
  · intro hl
    exact Nat.lt_of_div_lt_div (c := 2 ^ (w * j)) (by rw [← e1, ← e2]; omega)
  · intro hl
    rcases Nat.lt_or_ge db da with q | q
    · exact q
    · have : A < B := Nat.lt_of_div_lt_div (c := 2 ^ (w * j)) (by rw [← e1, ← e2]; omega)
      omega
theorem cmp_eq {w A B j : Nat} (h : A / 2 ^ (w * (j + 1)) = B / 2 ^ (w * (j + 1))) (he : A / 2 ^ (w * j) % 2 ^ w = B / 2 ^ (w * j) % 2 ^ w) : A / 2 ^ (w * j) = B / 2 ^ (w * j) := by
  rw [pow_up, ← Nat.div_div_eq_div_mul, ← Nat.div_div_eq_div_mul] at h
  have e1 := Nat.div_add_mod (A / 2 ^ (w * j)) (2 ^ w)
  have e2 := Nat.div_add_mod (B / 2 ^ (w * j)) (2 ^ w)
  rw [h, he, e2] at e1
  exact e1.symm
theorem cmp_top {w A B n : Nat} (hA : A < 2 ^ (w * n)) (hB : B < 2 ^ (w * n)) : A / 2 ^ (w * n) = B / 2 ^ (w * n) := by rw [Nat.div_eq_of_lt hA, Nat.div_eq_of_lt hB]
theorem limb_same {A B j : Nat} : limb A j = limb B j ↔ A / 2 ^ (64 * j) % 2 ^ 64 = B / 2 ^ (64 * j) % 2 ^ 64 := by rw [← BitVec.toNat_inj, limb_toNat, limb_toNat]
theorem dig_same {A B j : Nat} : dig A j = dig B j ↔ A / 2 ^ (16 * j) % 2 ^ 16 = B / 2 ^ (16 * j) % 2 ^ 16 := by rw [← BitVec.toNat_inj, dig_toNat, dig_toNat]
theorem above_limb {A B j : Nat} (h : A / 2 ^ (64 * (j + 1)) = B / 2 ^ (64 * (j + 1))) (hne : ¬ limb A j = limb B j) : decide ((limb B j).toNat < (limb A j).toNat) = decide (B < A) := by
  rw [limb_toNat, limb_toNat]
  exact decide_eq_decide.2 (cmp_at h (fun e => hne (limb_same.2 e)))
theorem above_dig {A B j : Nat} (h : A / 2 ^ (16 * (j + 1)) = B / 2 ^ (16 * (j + 1))) (hne : ¬ dig A j = dig B j) : decide ((dig B j).toNat < (dig A j).toNat) = decide (B < A) := by
  rw [dig_toNat, dig_toNat]
  exact decide_eq_decide.2 (cmp_at h (fun e => hne (dig_same.2 e)))
theorem above_limb' {A B j : Nat} (hne : ¬ limb A j = limb B j) (h : A / 2 ^ (64 * (j + 1)) = B / 2 ^ (64 * (j + 1))) : decide ((limb B j).toNat < (limb A j).toNat) = decide (B < A) := above_limb h hne
theorem above_dig' {A B j : Nat} (hne : ¬ dig A j = dig B j) (h : A / 2 ^ (16 * (j + 1)) = B / 2 ^ (16 * (j + 1))) : decide ((dig B j).toNat < (dig A j).toNat) = decide (B < A) := above_dig h hne
theorem above_no {w A B : Nat} (h : A / 2 ^ (w * 0) = B / 2 ^ (w * 0)) : false = decide (B < A) := by
  rw [Nat.mul_zero, Nat.pow_zero, Nat.div_one, Nat.div_one] at h
  exact (decide_eq_false (by omega)).symm
theorem above_no64 {A B : Nat} (h : A / 2 ^ (64 * 0) = B / 2 ^ (64 * 0)) : false = decide (B < A) := above_no (w := 64) h
theorem above_no16 {A B : Nat} (h : A / 2 ^ (16 * 0) = B / 2 ^ (16 * 0)) : false = decide (B < A) := above_no (w := 16) h
theorem dig_beyond {A m i : Nat} (h : A < 2 ^ (16 * m)) (hi : m ≤ i) : dig A i = 0#64 := by
  apply BitVec.eq_of_toNat_eq
  rw [dig_toNat, Nat.div_eq_of_lt (Nat.lt_of_lt_of_le h (Nat.pow_le_pow_right (by decide) (by omega)))]
  rfl

/-! ### what the roots are -/
def sqG (p : Nat) : Nat := p * 2 ^ 128
def cuG (p : Nat) : Nat := p * 2 ^ 192
def sqU (p : BitVec 64) : BitVec 64 := if p.toNat < 4294967296 then BitVec.ofNat 64 (rt 2 (sqG p.toNat)) else 0#64
def cuU (p : BitVec 64) : BitVec 64 := if p.toNat < 4294967296 then BitVec.ofNat 64 (rt 3 (cuG p.toNat)) else 0#64
theorem sqG_lt {p : Nat} (h : p < 4294967296) : sqG p < (2 ^ 80) ^ 2 := by
  unfold sqG
  exact Nat.lt_of_lt_of_le ((Nat.mul_lt_mul_right (by decide)).2 h) (by decide)
theorem cuG_lt {p : Nat} (h : p < 4294967296) : cuG p < (2 ^ 75) ^ 3 := by
  unfold cuG
  exact Nat.lt_of_lt_of_le ((Nat.mul_lt_mul_right (by decide)).2 h) (by decide)
theorem cuG_lt80 {p : Nat} (h : p < 4294967296) : cuG p < (2 ^ 80) ^ 3 := Nat.lt_trans (cuG_lt h) (by decide)

end Go.Sym
