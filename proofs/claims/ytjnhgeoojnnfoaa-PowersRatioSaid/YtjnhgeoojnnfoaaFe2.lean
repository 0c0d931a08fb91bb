/-
  The plain law of package fe: reading bytes, the number below 2^255 - 19, writing bytes. No program is in sight here.
-/
import Derived.Test.YtjnhgeoojnnfoaaFe
namespace Go.Sym
open Go

/-- The limbs of 51 bits of a number. -/
def limb51 (n : Nat) : Nat → BitVec 64 := fun i => BitVec.ofNat 64 (n / 2 ^ (51 * i) % 2 ^ 51)
theorem limb51_toNat (n i : Nat) : (limb51 n i).toNat = n / 2 ^ (51 * i) % 2 ^ 51 := by
  unfold limb51
  rw [BitVec.toNat_ofNat]
  have : n / 2 ^ (51 * i) % 2 ^ 51 < 2 ^ 51 := Nat.mod_lt _ (by decide)
  omega
theorem limb51_val (n : Nat) : val (limb51 n) = n % 2 ^ 255 := by
  have h := sumD_of (w := 51) (n := n) (k := 5)
  unfold val
  rw [← show 2 ^ (51 * 5) = 2 ^ 255 from rfl, ← h]
  exact sumD_congr fun i _ => limb51_toNat n i
theorem limb51_ok (n : Nat) : Ok (limb51 n) := fun i _ => by
  rw [limb51_toNat]
  have : n / 2 ^ (51 * i) % 2 ^ 51 < 2 ^ 51 := Nat.mod_lt _ (by decide)
  omega
theorem limb51_get (n k i : Nat) : (limb51 n k).getLsbD i = (decide (i < 51) && n.testBit (51 * k + i)) := by
  unfold limb51
  rw [BitVec.getLsbD_ofNat, Nat.testBit_mod_two_pow, Nat.testBit_div_two_pow]
  by_cases h : i < 51
  · simp [h, show i < 64 by omega, Nat.add_comm]
  · simp [h]
theorem limb_get (n k i : Nat) : (limb n k).getLsbD i = (decide (i < 64) && n.testBit (64 * k + i)) := by
  unfold limb
  rw [BitVec.getLsbD_ofNat, Nat.testBit_div_two_pow, Nat.add_comm]
theorem mask_get (i : Nat) : (2251799813685247#64 : BitVec 64).getLsbD i = decide (i < 51) := by
  have h : (2251799813685247#64 : BitVec 64) = BitVec.ofNat 64 (2 ^ 51 - 1) := rfl
  rw [h, BitVec.getLsbD_ofNat, Nat.testBit_two_pow_sub_one]
  by_cases h : i < 51
  · simp [h, show i < 64 by omega]
  · simp [h]

/-- A limb of 51 bits out of two limbs of 64. -/
theorem take_two (n j k s : Nat) (hs : s ≤ 64) (h : 64 * j + s = 51 * k) : (limb n j >>> s ||| limb n (j + 1) <<< (64 - s)) &&& 2251799813685247#64 = limb51 n k := by
  apply BitVec.eq_of_getLsbD_eq
  intro i hi
  rw [BitVec.getLsbD_and, BitVec.getLsbD_or, BitVec.getLsbD_ushiftRight, BitVec.getLsbD_shiftLeft, limb_get, limb_get, limb51_get, mask_get]
  by_cases h51 : i < 51
  · simp only [h51, hi, decide_true, Bool.true_and, Bool.and_true]
    by_cases hlo : s + i < 64
    · have : i < 64 - s := by omega
      simp only [hlo, this, decide_true, Bool.true_and, Bool.not_true, Bool.false_and, Bool.or_false]
      congr 1; omega
    · have h1 : ¬ i < 64 - s := by omega
      simp only [hlo, h1, decide_false, Bool.false_and, Bool.not_false, Bool.true_and, Bool.false_or, show i - (64 - s) < 64 by omega, decide_true]
      congr 1; omega
  · simp [h51]
theorem take_one (n j k s : Nat) (hs : s + 51 ≤ 64) (h : 64 * j + s = 51 * k) : limb n j >>> s &&& 2251799813685247#64 = limb51 n k := by
  apply BitVec.eq_of_getLsbD_eq
  intro i hi
  rw [BitVec.getLsbD_and, BitVec.getLsbD_ushiftRight, limb_get, limb51_get, mask_get]
  by_cases h51 : i < 51
  · simp only [h51, show s + i < 64 by omega, decide_true, Bool.true_and, Bool.and_true]
    congr 1; omega
  · simp [h51]
theorem take_low (n : Nat) : limb n 0 &&& 2251799813685247#64 = limb51 n 0 := by
  have := take_one n 0 0 0 (by decide) rfl
  rwa [BitVec.ushiftRight_zero] at this
theorem from_cells (n : Nat) : cU 5 (lst 0 [limb n 0 &&& 2251799813685247#64, (limb n 0 >>> 51 ||| limb n 1 <<< 13) &&& 2251799813685247#64, (limb n 1 >>> 38 ||| limb n 2 <<< 26) &&& 2251799813685247#64, (limb n 2 >>> 25 ||| limb n 3 <<< 39) &&& 2251799813685247#64, limb n 3 >>> 12 &&& 2251799813685247#64]) = cU 5 (limb51 n) := by
  rw [take_low, take_two n 0 1 51 (by decide) rfl, take_two n 1 2 38 (by decide) rfl, take_two n 2 3 25 (by decide) rfl, take_one n 3 4 12 (by decide) rfl]
  rfl

/-! ### the number below p -/

/-- What is carried, k limbs having been taken. -/
def chn (c : Nat) (x : Nat → BitVec 64) (k : Nat) : Nat := (c + sumD 51 (fun i => (x i).toNat) k) / 2 ^ (51 * k)
theorem chn_zero (c : Nat) (x : Nat → BitVec 64) : chn c x 0 = c := by simp [chn, sumD]
theorem chn_add (c : Nat) (x : Nat → BitVec 64) (k : Nat) : (x k).toNat + chn c x k = (c + sumD 51 (fun i => (x i).toNat) (k + 1)) / 2 ^ (51 * k) := by
  unfold chn
  rw [sumD_succ', ← Nat.add_assoc, Nat.add_mul_div_right _ _ (Nat.two_pow_pos _), Nat.add_comm]
theorem chn_succ (c : Nat) (x : Nat → BitVec 64) (k : Nat) : chn c x (k + 1) = ((x k).toNat + chn c x k) / 2251799813685248 := by
  rw [chn_add, Nat.div_div_eq_div_mul, show (2251799813685248 : Nat) = 2 ^ 51 from rfl, ← Nat.pow_add]
  rfl
theorem chn_le {c : Nat} {x : Nat → BitVec 64} (hc : c ≤ 19) (hx : ∀ i, i < 5 → (x i).toNat ≤ 4503599627370496) : ∀ k, k ≤ 5 → chn c x k ≤ 19
  | 0, _ => by rw [chn_zero]; exact hc
  | k + 1, hk => by
    have h1 := chn_le hc hx k (by omega)
    have h2 := hx k (by omega)
    rw [chn_succ]
    omega
theorem high_drop (a x m w r : Nat) (hm : 0 < m) : (a + x * (m * (w * r))) / m % w = a / m % w := by
  rw [Nat.mul_left_comm, Nat.add_mul_div_left _ _ hm, Nat.mul_left_comm, Nat.add_mul_mod_self_left]
theorem chn_digit (c : Nat) (x : Nat → BitVec 64) (k d : Nat) : ((x k).toNat + chn c x k) % 2 ^ 51 = (c + sumD 51 (fun i => (x i).toNat) (k + 1 + d)) / 2 ^ (51 * k) % 2 ^ 51 := by
  induction d with
  | zero => rw [chn_add, Nat.add_zero]
  | succ d ih =>
    rw [ih, show k + 1 + (d + 1) = (k + 1 + d) + 1 by omega, sumD_succ' 51 _ (k + 1 + d), ← Nat.add_assoc]
    have e : 2 ^ (51 * (k + 1 + d)) = 2 ^ (51 * k) * (2 ^ 51 * 2 ^ (51 * d)) := by
      rw [← Nat.pow_add, ← Nat.pow_add]; congr 1; omega
    rw [e]
    exact (high_drop _ _ _ _ _ (Nat.two_pow_pos _)).symm

/-- The carry of the first way: does the number reach p? -/
def cB1 (x : Nat → BitVec 64) (k : Nat) : BitVec 64 := BitVec.ofNat 64 (chn 19 x k)
/-- Once p has been taken away (q times), k limbs having been laid. -/
def leTo (x : Nat → BitVec 64) (c k : Nat) : Nat → BitVec 64 := fun i => if i < k then limb51 (c + val x) i else x i
theorem chn_bv {c : Nat} {x : Nat → BitVec 64} (hc : c ≤ 19) (hx : ∀ i, i < 5 → (x i).toNat ≤ 4503599627370496) (k : Nat) (hk : k ≤ 5) : (BitVec.ofNat 64 (chn c x k)).toNat = chn c x k := by
  rw [BitVec.toNat_ofNat]
  have := chn_le hc hx k hk
  omega
theorem chn_step {c : Nat} {x : Nat → BitVec 64} (hc : c ≤ 19) (hx : ∀ i, i < 5 → (x i).toNat ≤ 4503599627370496) (k : Nat) (hk : k < 5) (u v : BitVec 64) (hu : u.toNat + v.toNat = (x k).toNat + chn c x k) : (u + v) >>> 51 = BitVec.ofNat 64 (chn c x (k + 1)) := by
  apply BitVec.eq_of_toNat_eq
  have h1 := chn_le hc hx k (by omega)
  have h2 := hx k hk
  rw [chn_bv hc hx (k + 1) (by omega), shr51, BitVec.toNat_add, chn_succ, hu]
  omega
theorem leTo_zero (x : Nat → BitVec 64) (c : Nat) : leTo x c 0 = x := by funext i; exact if_neg (Nat.not_lt_zero i)
theorem leTo_self (x : Nat → BitVec 64) (c k : Nat) : leTo x c k k = x k := if_neg (Nat.lt_irrefl k)
theorem leTo_step {c : Nat} {x : Nat → BitVec 64} (hc : c ≤ 19) (hx : ∀ i, i < 5 → (x i).toNat ≤ 4503599627370496) (k : Nat) (hk : k < 5) : upd (leTo x c k) k ((BitVec.ofNat 64 (chn c x k) + x k) &&& 2251799813685247#64) = leTo x c (k + 1) := by
  have e : (BitVec.ofNat 64 (chn c x k) + x k) &&& 2251799813685247#64 = limb51 (c + val x) k := by
    apply BitVec.eq_of_toNat_eq
    have h1 := chn_le hc hx k (by omega)
    have h2 := hx k hk
    rw [and_mask, BitVec.toNat_add, chn_bv hc hx k (by omega), limb51_toNat]
    have h3 := chn_digit c x k (4 - k)
    rw [show k + 1 + (4 - k) = 5 by omega, sumD5] at h3
    rw [← h3]
    omega
  rw [e]
  funext i
  unfold upd leTo
  by_cases h : i = k
  · subst h; rw [if_pos rfl, if_pos (by omega)]
  · rw [if_neg h]
    by_cases h2 : i < k
    · rw [if_pos h2, if_pos (by omega)]
    · rw [if_neg h2, if_neg (by omega)]

/-- A carried number: its limbs, and that it is below twice p. -/
theorem carried_small {x : Nat → BitVec 64} (hx : Ok x) : (∀ i, i < 5 → (feCarry x i).toNat ≤ 4503599627370496) ∧ val (feCarry x) < 2 * pP ∧ val (feCarry x) % pP = val x % pP := by
  have hb : ∀ i, i < 5 → (x i).toNat / 2251799813685248 ≤ 1 := fun i hi => by have := hx i hi; omega
  have h4 : (x 4).toNat / 2251799813685248 * 19 + 2251799813685248 < 18446744073709551616 := by have := hb 4 (by omega); omega
  have h5 : ∀ i, i < 5 → (x i).toNat / 2251799813685248 + 2251799813685248 < 18446744073709551616 := fun i hi => by have := hb i hi; omega
  obtain ⟨h0, h1⟩ := feCarry_val x h4 h5
  have k0 : (feCarry x 0).toNat ≤ 2251799813685266 := by
    rw [h0]
    have := hb 4 (by omega)
    have := Nat.mod_lt (x 0).toNat (show 0 < 2251799813685248 by decide)
    omega
  have ki : ∀ i, 0 < i → i < 5 → (feCarry x i).toNat ≤ 2251799813685248 := fun i hi0 hi => by
    rw [h1 i hi0 hi]
    have := hb (i - 1) (by omega)
    have := Nat.mod_lt (x i).toNat (show 0 < 2251799813685248 by decide)
    omega
  refine ⟨fun i hi => ?_, ?_, mod_of_add (feCarry_sum x h4 h5)⟩
  · by_cases h : i = 0
    · subst h; omega
    · have := ki i (by omega) hi
      omega
  · have k1 := ki 1 (by omega) (by omega)
    have k2 := ki 2 (by omega) (by omega)
    have k3 := ki 3 (by omega) (by omega)
    have k4 := ki 4 (by omega) (by omega)
    have hp := pP_eq
    rw [val_def]
    omega
/-- Does the number reach p? -/
theorem reach_p {x : Nat → BitVec 64} (h : val x < 2 * pP) : chn 19 x 5 = if val x < pP then 0 else 1 := by
  unfold chn
  rw [sumD5]
  have hp := pP_eq
  rw [show 51 * 5 = 255 from rfl, ← hp]
  have h0 : 0 < pP + 19 := by omega
  split
  · exact Nat.div_eq_of_lt (by omega)
  · rw [Nat.div_eq_iff h0]
    have : pP + 19 = 2 ^ 255 := hp
    have : 19 < pP := by decide +kernel
    omega
theorem least_num {x : Nat → BitVec 64} (h : val x < 2 * pP) : (19 * chn 19 x 5 + val x) % 2 ^ 255 = val x % pP := by
  rw [reach_p h, ← pP_eq]
  split
  · rename_i hlt
    rw [Nat.mul_zero, Nat.zero_add, Nat.mod_eq_of_lt (by omega), Nat.mod_eq_of_lt hlt]
  · rename_i hlt
    rw [Nat.mul_one, Nat.mod_eq_sub_mod (show pP ≤ val x by omega), Nat.mod_eq_sub_mod (show pP + 19 ≤ 19 + val x by omega), Nat.mod_eq_of_lt (by omega), Nat.mod_eq_of_lt (by omega)]
    omega
theorem limb51_mod (n i : Nat) (hi : i < 5) : limb51 (n % 2 ^ 255) i = limb51 n i := by
  apply BitVec.eq_of_toNat_eq
  rw [limb51_toNat, limb51_toNat]
  have e : (2 : Nat) ^ 255 = 2 ^ (51 * i) * (2 ^ 51 * 2 ^ (204 - 51 * i)) := by rw [← Nat.pow_add, ← Nat.pow_add]; congr 1; omega
  rw [e, Nat.mod_mul_right_div_self, Nat.mod_mul_right_mod]
/-- The limbs of the number below p. -/
theorem least_cells {x : Nat → BitVec 64} (hx : Ok x) : cU 5 (leTo (feCarry x) (19 * chn 19 (feCarry x) 5) 5) = cU 5 (limb51 (val x % pP)) := cU_congr fun i hi => by
  obtain ⟨_, h2, h3⟩ := carried_small hx
  unfold leTo
  rw [if_pos hi, ← limb51_mod _ i hi, least_num h2, h3]
theorem q_le {x : Nat → BitVec 64} (h : val x < 2 * pP) : 19 * chn 19 x 5 ≤ 19 := by rw [reach_p h]; split <;> omega
theorem mul19 {x : Nat → BitVec 64} (h : val x < 2 * pP) : BitVec.ofNat 64 (chn 19 x 5) * 19#64 = BitVec.ofNat 64 (chn (19 * chn 19 x 5) x 0) := by
  rw [chn_zero, reach_p h]
  split <;> rfl

/-! ### bytes, bit by bit -/

theorem byt_or (n i : Nat) (b : BitVec 8) (hn : n < 2 ^ i) (hb : b.toNat < 2) : upd (byt n) (i / 8) (byt n (i / 8) ||| b <<< (i % 8)) = byt (n + b.toNat * 2 ^ i) := by
  have e : 2 ^ i = 2 ^ (8 * (i / 8)) * 2 ^ (i % 8) := by rw [← Nat.pow_add]; congr 1; omega
  have hp : 0 < 2 ^ (8 * (i / 8)) := Nat.two_pow_pos _
  funext j
  unfold upd
  apply BitVec.eq_of_toNat_eq
  by_cases hj : j = i / 8
  · subst hj
    rw [if_pos rfl, BitVec.toNat_or, byt_toNat, byt_toNat, BitVec.toNat_shiftLeft, e, ← Nat.mul_assoc, Nat.mul_comm b.toNat, Nat.mul_assoc, Nat.add_mul_div_left _ _ hp]
    have hq : n / 2 ^ (8 * (i / 8)) < 2 ^ (i % 8) := by rw [Nat.div_lt_iff_lt_mul hp, Nat.mul_comm, ← e]; exact hn
    have h7 : 2 ^ (i % 8) ≤ 2 ^ 7 := Nat.pow_le_pow_right (by decide) (by omega)
    have hprod : b.toNat * 2 ^ (i % 8) < 2 ^ 8 := by
      have := Nat.mul_le_mul (show b.toNat ≤ 1 by omega) h7
      omega
    rw [Nat.mod_eq_of_lt (a := n / 2 ^ (8 * (i / 8))) (by omega), Nat.shiftLeft_eq, Nat.mod_eq_of_lt hprod]
    have h1 : n / 2 ^ (8 * (i / 8)) ||| b.toNat * 2 ^ (i % 8) = n / 2 ^ (8 * (i / 8)) + b.toNat * 2 ^ (i % 8) := by
      rw [Nat.or_comm, ← Nat.shiftLeft_eq, ← Nat.shiftLeft_add_eq_or_of_lt hq, Nat.add_comm]
    rw [h1]
    have h2 : b.toNat * 2 ^ (i % 8) ≤ 1 * 2 ^ (i % 8) := Nat.mul_le_mul_right _ (by omega)
    exact (Nat.mod_eq_of_lt (by omega)).symm
  · rw [if_neg hj, byt_toNat, byt_toNat]
    by_cases hlt : j < i / 8
    · have e2 : 2 ^ i = 2 ^ (8 * j) * (2 ^ 8 * 2 ^ (i - 8 * j - 8)) := by rw [← Nat.pow_add, ← Nat.pow_add]; congr 1; omega
      rw [e2, ← Nat.mul_assoc, Nat.mul_comm b.toNat, Nat.mul_assoc, Nat.add_mul_div_left _ _ (Nat.two_pow_pos _), Nat.mul_left_comm, Nat.add_mul_mod_self_left]
    · have hge : 2 ^ (i + 1) ≤ 2 ^ (8 * j) := Nat.pow_le_pow_right (by decide) (by omega)
      have h2 : b.toNat * 2 ^ i ≤ 1 * 2 ^ i := Nat.mul_le_mul_right _ (by omega)
      rw [Nat.pow_succ] at hge
      rw [Nat.div_eq_of_lt (by omega), Nat.div_eq_of_lt (by omega)]
theorem bit51 (n i : Nat) : ((limb51 n (i / 51) >>> (i % 51) &&& 1#64).setWidth 8).toNat = n / 2 ^ i % 2 := by
  have e1 : ∀ q : Nat, q &&& (1#64).toNat = q % 2 := fun q => Nat.and_two_pow_sub_one_eq_mod q 1
  rw [BitVec.toNat_setWidth, BitVec.toNat_and, e1, BitVec.toNat_ushiftRight, limb51_toNat, Nat.shiftRight_eq_div_pow]
  have e : 2 ^ i = 2 ^ (51 * (i / 51)) * 2 ^ (i % 51) := by rw [← Nat.pow_add]; congr 1; omega
  rw [e, ← Nat.div_div_eq_div_mul]
  generalize n / 2 ^ (51 * (i / 51)) = m
  have e2 : (2 : Nat) ^ 51 = 2 ^ (i % 51) * (2 * 2 ^ (50 - i % 51)) := by rw [← Nat.pow_succ', ← Nat.pow_add]; congr 1; omega
  have e3 : m % 2 ^ 51 / 2 ^ (i % 51) % 2 = m / 2 ^ (i % 51) % 2 := by rw [e2, Nat.mod_mul_right_div_self, Nat.mod_mul_right_mod]
  rw [e3]
  have : m / 2 ^ (i % 51) % 2 < 2 := Nat.mod_lt _ (by decide)
  omega
theorem bytes_step (n i : Nat) : upd (byt (n % 2 ^ i)) (i / 8) (byt (n % 2 ^ i) (i / 8) ||| ((limb51 n (i / 51) >>> (i % 51) &&& 1#64).setWidth 8) <<< (i % 8)) = byt (n % 2 ^ (i + 1)) := by
  have hb := bit51 n i
  rw [byt_or (n % 2 ^ i) i _ (Nat.mod_lt _ (Nat.two_pow_pos _)) (by rw [hb]; exact Nat.mod_lt _ (by decide)), hb, Nat.pow_succ, Nat.mod_mul, Nat.mul_comm (2 ^ i)]
end Go.Sym
