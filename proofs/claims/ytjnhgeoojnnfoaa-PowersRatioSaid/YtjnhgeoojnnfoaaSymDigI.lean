/-
  Digits of 16 bits that are int64 and may be great or negative: carrying from the lowest on. Plain arithmetic; no program is in sight here.
-/
import Derived.Test.YtjnhgeoojnnfoaaSymDig
namespace Go.Sym
open Go

theorem toInt_bounds (x : BitVec 64) : -9223372036854775808 ≤ x.toInt ∧ x.toInt < 9223372036854775808 := by
  have h := x.isLt
  rw [BitVec.toInt_eq_toNat_cond]
  split <;> omega
theorem bmod_in (z : Int) (h : -9223372036854775808 ≤ z ∧ z < 9223372036854775808) : z.bmod (2 ^ 64) = z := by
  unfold Int.bmod
  dsimp only
  split <;> omega
theorem toInt_ofInt_in (z : Int) (h : -9223372036854775808 ≤ z ∧ z < 9223372036854775808) : (BitVec.ofInt 64 z).toInt = z := by
  rw [BitVec.toInt_ofInt, bmod_in _ h]
theorem toInt_add_in (x y : BitVec 64) (h : -9223372036854775808 ≤ x.toInt + y.toInt ∧ x.toInt + y.toInt < 9223372036854775808) : (x + y).toInt = x.toInt + y.toInt := by
  rw [BitVec.toInt_add, bmod_in _ h]
theorem toInt_sub_in (x y : BitVec 64) (h : -9223372036854775808 ≤ x.toInt - y.toInt ∧ x.toInt - y.toInt < 9223372036854775808) : (x - y).toInt = x.toInt - y.toInt := by
  rw [BitVec.toInt_sub, bmod_in _ h]
theorem toInt_mul_in (x y : BitVec 64) (h : -9223372036854775808 ≤ x.toInt * y.toInt ∧ x.toInt * y.toInt < 9223372036854775808) : (x * y).toInt = x.toInt * y.toInt := by
  rw [BitVec.toInt_mul, bmod_in _ h]
theorem toInt_of_lt (x : BitVec 64) (h : x.toNat < 9223372036854775808) : x.toInt = (x.toNat : Int) := by
  rw [BitVec.toInt_eq_toNat_cond]
  split <;> omega
theorem toInt_sshr (x : BitVec 64) (m : Nat) : (x.sshiftRight m).toInt = x.toInt / 2 ^ m := by
  rw [BitVec.toInt_sshiftRight, Int.shiftRight_eq_div_pow]
  simp
theorem toInt_sshr16 (x : BitVec 64) : (x.sshiftRight 16).toInt = x.toInt / 65536 := toInt_sshr x 16
theorem toNat_mod (x : BitVec 64) (m : Nat) (hm : m ≤ 63) : ((x.toNat % 2 ^ m : Nat) : Int) = x.toInt % 2 ^ m := by
  rw [BitVec.toInt_eq_toNat_cond]
  split
  · simp
  · have e : (2 : Int) ^ 64 = 2 ^ m * 2 ^ (64 - m) := by rw [← Int.pow_add]; congr 1; omega
    have e2 : (((2 : Nat) ^ 64 : Nat) : Int) = (2 : Int) ^ 64 := by decide
    rw [e2, e, Int.sub_eq_add_neg, ← Int.mul_neg, Int.add_mul_emod_self_left]
    simp
theorem toInt_and_low (x y : BitVec 64) (m : Nat) (hm : m ≤ 62) (hy : y.toNat = 2 ^ m - 1) : (x &&& y).toInt = x.toInt % 2 ^ m := by
  have h1 : (x &&& y).toNat = x.toNat % 2 ^ m := by rw [BitVec.toNat_and, hy, Nat.and_two_pow_sub_one_eq_mod]
  have h2 : x.toNat % 2 ^ m < 2 ^ m := Nat.mod_lt _ (Nat.two_pow_pos _)
  have h3 : 2 ^ m ≤ 2 ^ 62 := Nat.pow_le_pow_right (by decide) hm
  rw [toInt_of_lt _ (by rw [h1]; omega), h1, toNat_mod x m (by omega)]
theorem toInt_and16 (x : BitVec 64) : (x &&& 65535#64).toInt = x.toInt % 65536 := toInt_and_low x 65535#64 16 (by decide) rfl

/-- The number of k digits, whatever they are. -/
def sumI (f : Nat → BitVec 64) : Nat → Int
  | 0 => 0
  | k + 1 => sumI f k + (f k).toInt * 2 ^ (16 * k)

theorem sumI_congr {f g : Nat → BitVec 64} : ∀ {k : Nat}, (∀ i, i < k → f i = g i) → sumI f k = sumI g k
  | 0, _ => rfl
  | k + 1, h => by simp only [sumI]; rw [sumI_congr (k := k) (fun i hi => h i (by omega)), h k (by omega)]

theorem sumI_upd (f : Nat → BitVec 64) (p : Nat) (v : BitVec 64) : ∀ k, sumI (upd f p v) k = sumI f k + (if p < k then (v.toInt - (f p).toInt) * 2 ^ (16 * p) else 0) := by
  intro k
  induction k with
  | zero => simp [sumI]
  | succ k ih =>
    simp only [sumI]
    rw [ih]
    by_cases h : p < k
    · rw [if_pos h, if_pos (by omega)]
      have : upd f p v k = f k := by unfold upd; rw [if_neg (by omega)]
      rw [this]; omega
    · rw [if_neg h]
      by_cases h2 : p = k
      · subst h2
        rw [if_pos (by omega)]
        have : upd f p v p = v := by unfold upd; rw [if_pos rfl]
        rw [this, Int.sub_mul]; omega
      · rw [if_neg (by omega)]
        have : upd f p v k = f k := by unfold upd; rw [if_neg (fun e => h2 e.symm)]
        rw [this]; omega

theorem pow16_succ (k : Nat) : (2 : Int) ^ (16 * (k + 1)) = 65536 * 2 ^ (16 * k) := by
  rw [Nat.mul_succ, Int.pow_add, Int.mul_comm]
  rfl
theorem pow16_pos (k : Nat) : (0 : Int) < 2 ^ (16 * k) := Int.pow_pos (by decide)

/-- One digit carries. -/
def nrmS (f : Nat → BitVec 64) (k : Nat) : Nat → BitVec 64 := upd (upd f (k + 1) (f (k + 1) + (f k).sshiftRight 16)) k (f k &&& 65535#64)
def nrmTo (f : Nat → BitVec 64) : Nat → (Nat → BitVec 64)
  | 0 => f
  | k + 1 => nrmS (nrmTo f k) k

theorem nrm_spec {f : Nat → BitVec 64} {b : Int} (hb : 65536 ≤ b ∧ b ≤ 1152921504606846976) (hf : ∀ i, -b ≤ (f i).toInt ∧ (f i).toInt ≤ b) : ∀ k,
    (∀ i, i < k → 0 ≤ (nrmTo f k i).toInt ∧ (nrmTo f k i).toInt < 65536) ∧ (∀ i, k < i → nrmTo f k i = f i) ∧ (-(2 * b) ≤ (nrmTo f k k).toInt ∧ (nrmTo f k k).toInt ≤ 2 * b) ∧ (∀ m, k < m → sumI (nrmTo f k) m = sumI f m) := by
  intro k
  induction k with
  | zero => exact ⟨fun i hi => by omega, fun _ _ => rfl, by have := hf 0; show -(2 * b) ≤ (f 0).toInt ∧ (f 0).toInt ≤ 2 * b; omega, fun _ _ => rfl⟩
  | succ k ih =>
    obtain ⟨h1, h2, h3, h4⟩ := ih
    have hk1 : nrmTo f k (k + 1) = f (k + 1) := h2 (k + 1) (by omega)
    have hb1 := hf (k + 1)
    have hsum : (nrmTo f k (k + 1) + (nrmTo f k k).sshiftRight 16).toInt = (f (k + 1)).toInt + (nrmTo f k k).toInt / 65536 := by
      rw [toInt_add_in _ _ (by rw [toInt_sshr16, hk1]; omega), toInt_sshr16, hk1]
    have gk : nrmTo f (k + 1) k = nrmTo f k k &&& 65535#64 := by
      show nrmS _ _ _ = _
      unfold nrmS upd
      rw [if_pos rfl]
    have gk1 : nrmTo f (k + 1) (k + 1) = nrmTo f k (k + 1) + (nrmTo f k k).sshiftRight 16 := by
      show nrmS _ _ _ = _
      unfold nrmS upd
      rw [if_neg (by omega), if_pos rfl]
    have gi : ∀ i, i ≠ k → i ≠ k + 1 → nrmTo f (k + 1) i = nrmTo f k i := by
      intro i hi hi2
      show nrmS _ _ _ = _
      unfold nrmS upd
      rw [if_neg hi, if_neg hi2]
    refine ⟨fun i hi => ?_, fun i hi => ?_, ?_, fun m hm => ?_⟩
    · by_cases hik : i = k
      · subst hik
        rw [gk, toInt_and16]
        omega
      · rw [gi i hik (by omega)]
        exact h1 i (by omega)
    · rw [gi i (by omega) (by omega)]
      exact h2 i (by omega)
    · rw [gk1, hsum]
      omega
    · rw [← h4 m (by omega)]
      show sumI (nrmS (nrmTo f k) k) m = _
      unfold nrmS
      rw [sumI_upd, sumI_upd, if_pos hm, if_pos (show k < m by omega), hsum, toInt_and16]
      have e : upd (nrmTo f k) (k + 1) (nrmTo f k (k + 1) + (nrmTo f k k).sshiftRight 16) k = nrmTo f k k := by unfold upd; rw [if_neg (by omega)]
      rw [e, hk1, pow16_succ]
      have e2 : (nrmTo f k k).toInt % 65536 - (nrmTo f k k).toInt = -(65536 * ((nrmTo f k k).toInt / 65536)) := by omega
      have e3 : (f (k + 1)).toInt + (nrmTo f k k).toInt / 65536 - (f (k + 1)).toInt = (nrmTo f k k).toInt / 65536 := by omega
      rw [e2, e3]
      generalize (nrmTo f k k).toInt / 65536 = q
      generalize (2 : Int) ^ (16 * k) = p
      rw [Int.neg_mul, ← Int.mul_assoc q, Int.mul_comm q 65536]
      omega

/-- Proper digits are those of their number. -/
theorem sumI_proper {f : Nat → BitVec 64} : ∀ {k : Nat}, (∀ i, i < k → 0 ≤ (f i).toInt ∧ (f i).toInt < 65536) → sumI f k = (sumD 16 (fun i => (f i).toNat) k : Nat)
  | 0, _ => rfl
  | k + 1, h => by
    simp only [sumI, sumD]
    rw [sumI_proper (k := k) (fun i hi => h i (by omega))]
    have h1 := h k (by omega)
    have h2 : (f k).toInt = ((f k).toNat : Int) := by
      rw [BitVec.toInt_eq_toNat_cond] at h1 ⊢
      have := (f k).isLt
      split at h1 <;> split <;> omega
    rw [h2]
    simp
theorem proper_lt {x : BitVec 64} (h : 0 ≤ x.toInt ∧ x.toInt < 65536) : x.toNat < 2 ^ 16 := by
  rw [BitVec.toInt_eq_toNat_cond] at h
  have := x.isLt
  split at h <;> omega
theorem proper_dig {f : Nat → BitVec 64} {k n : Nat} (h : ∀ i, i < k → 0 ≤ (f i).toInt ∧ (f i).toInt < 65536) (hs : sumI f k = (n : Int)) : ∀ i, i < k → f i = dig n i := by
  intro i hi
  have h1 : sumD 16 (fun i => (f i).toNat) k = n := by
    have := sumI_proper h
    rw [hs] at this
    exact (Int.ofNat.inj this).symm
  apply BitVec.eq_of_toNat_eq
  rw [dig_toNat, ← h1]
  exact (sumD_get (fun j hj => proper_lt (h j hj)) hi).symm
theorem dig_toInt (n i : Nat) : (dig n i).toInt = ((n / 2 ^ (16 * i) % 65536 : Nat) : Int) := by
  have h := dig_toNat n i
  have h2 : n / 2 ^ (16 * i) % 2 ^ 16 < 2 ^ 16 := Nat.mod_lt _ (by decide)
  rw [toInt_of_lt _ (by rw [h]; omega), h]
theorem dig_proper (n i : Nat) : 0 ≤ (dig n i).toInt ∧ (dig n i).toInt < 65536 := by
  rw [dig_toInt]
  have : n / 2 ^ (16 * i) % 65536 < 65536 := Nat.mod_lt _ (by decide)
  omega
theorem sumI_dig (n k : Nat) : sumI (dig n) k = ((n % 2 ^ (16 * k) : Nat) : Int) := by
  rw [sumI_proper (fun i _ => dig_proper n i), ← sumD_of (w := 16) (n := n)]
  congr 1
  exact sumD_congr fun i _ => dig_toNat n i
theorem sumI_nonneg {f : Nat → BitVec 64} {k : Nat} (h : ∀ i, i < k → 0 ≤ (f i).toInt ∧ (f i).toInt < 65536) : 0 ≤ sumI f k ∧ sumI f k < 2 ^ (16 * k) := by
  rw [sumI_proper h]
  have := sumD_lt (w := 16) (f := fun i => (f i).toNat) (k := k) (fun i hi => proper_lt (h i hi))
  have e : ((2 ^ (16 * k) : Nat) : Int) = 2 ^ (16 * k) := by simp
  omega

/-- A number that all digits but the last are carried in: the last one tells its sign. -/
theorem carried_sign {f : Nat → BitVec 64} {b : Int} (hb : 65536 ≤ b ∧ b ≤ 1152921504606846976) (hf : ∀ i, -b ≤ (f i).toInt ∧ (f i).toInt ≤ b) (k : Nat) : (0 ≤ (nrmTo f k k).toInt ↔ 0 ≤ sumI f (k + 1)) := by
  obtain ⟨h1, _, _, h4⟩ := nrm_spec hb hf k
  have hs := sumI_nonneg h1
  have e := h4 (k + 1) (by omega)
  simp only [sumI] at e ⊢
  rw [← e]
  have hp := pow16_pos k
  generalize (nrmTo f k k).toInt = x at *
  generalize sumI (nrmTo f k) k = s at *
  generalize (2 : Int) ^ (16 * k) = p at *
  constructor
  · intro hx
    have := Int.mul_nonneg hx (Int.le_of_lt hp)
    omega
  · intro hx
    rcases Int.lt_or_le x 0 with hn | hn
    · have h5 : x * p ≤ -1 * p := Int.mul_le_mul_of_nonneg_right (by omega) (Int.le_of_lt hp)
      omega
    · exact hn
/-- A number that fits: carried, its digits are its own. -/
theorem carried_dig {f : Nat → BitVec 64} {b : Int} (hb : 65536 ≤ b ∧ b ≤ 1152921504606846976) (hf : ∀ i, -b ≤ (f i).toInt ∧ (f i).toInt ≤ b) (k n : Nat) (hs : sumI f (k + 1) = (n : Int)) (hn : n < 2 ^ (16 * (k + 1))) :
    ∀ i, i < k + 1 → nrmTo f k i = dig n i := by
  obtain ⟨h1, _, _, h4⟩ := nrm_spec hb hf k
  have e := h4 (k + 1) (by omega)
  rw [hs] at e
  refine proper_dig (fun i hi => ?_) e
  by_cases hik : i < k
  · exact h1 i hik
  · have : i = k := by omega
    subst this
    have hsg := (carried_sign hb hf i).2 (by rw [hs]; omega)
    refine ⟨hsg, ?_⟩
    have hs0 := (sumI_nonneg h1).1
    simp only [sumI] at e
    have hp := pow16_pos i
    have hn' : (n : Int) < 65536 * 2 ^ (16 * i) := by
      rw [← pow16_succ]
      have e2 : ((2 ^ (16 * (i + 1)) : Nat) : Int) = 2 ^ (16 * (i + 1)) := by simp
      omega
    generalize (nrmTo f i i).toInt = x at *
    generalize sumI (nrmTo f i) i = s at *
    generalize (2 : Int) ^ (16 * i) = p at *
    rcases Int.lt_or_le x 65536 with h | h
    · exact h
    · have := Int.mul_le_mul_of_nonneg_right h (Int.le_of_lt hp)
      omega
end Go.Sym
