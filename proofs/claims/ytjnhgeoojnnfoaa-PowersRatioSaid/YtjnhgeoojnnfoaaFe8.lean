/-
  Numbers by digits of 16 bits, as the walks of the definition of chapter 9 need them (lines of the scalar seat's own text). No program is in sight here.
-/
import Derived.Test.YtjnhgeoojnnfoaaFe7
namespace Go.Sym
open Go

theorem dig_zero : dig 0 = fun _ => 0 := by funext i; unfold dig; rw [Nat.zero_div]; rfl
theorem cI_dig {f : Nat → BitVec 64} {m n : Nat} (h : ∀ i, i < m → f i = dig n i) : cI m f = cI m (dig n) := cI_congr h

/-- A byte is laid into digits. -/
theorem dig_lay (f : Nat → BitVec 8) (k m : Nat) (hk : 8 * (k + 1) ≤ 16 * m) (u : BitVec 64) (hu : u.toNat = 8 * (k % 2)) :
    ∀ i, i < m → upd (dig (natB f k)) (k / 2) (dig (natB f k) (k / 2) + (f k).setWidth 64 <<< u.toNat) i = dig (natB f (k + 1)) i := by
  have hn := natB_lt f k
  have hc := (f k).isLt
  have hold : natB f k / 2 ^ (16 * (k / 2)) < 2 ^ (8 * (k % 2)) := by
    rw [Nat.div_lt_iff_lt_mul (Nat.two_pow_pos _), ← Nat.pow_add]
    exact (show 8 * (k % 2) + 16 * (k / 2) = 8 * k by omega) ▸ hn
  have hp : 2 ^ (8 * (k % 2)) ≤ 256 := by
    have : k % 2 = 0 ∨ k % 2 = 1 := by omega
    rcases this with h | h <;> rw [h] <;> decide
  have hd : (dig (natB f k) (k / 2)).toNat = natB f k / 2 ^ (16 * (k / 2)) := by rw [dig_toNat, Nat.mod_eq_of_lt (by omega)]
  have hs : ((f k).setWidth 64 <<< u.toNat).toNat = (f k).toNat * 2 ^ (8 * (k % 2)) := by
    rw [BitVec.toNat_shiftLeft, BitVec.toNat_setWidth, hu, Nat.shiftLeft_eq, Nat.mod_eq_of_lt (a := (f k).toNat) (by omega), Nat.mod_eq_of_lt]
    have := Nat.mul_le_mul (show (f k).toNat ≤ 255 by omega) hp
    omega
  have hv : (f k).toNat * 2 ^ (8 * (k % 2)) ≤ 65280 ∧ (k % 2 = 0 → (f k).toNat * 2 ^ (8 * (k % 2)) ≤ 255) := by
    refine ⟨?_, fun h => by rw [h]; simp; omega⟩
    have := Nat.mul_le_mul (show (f k).toNat ≤ 255 by omega) hp
    omega
  have hvt : (dig (natB f k) (k / 2) + (f k).setWidth 64 <<< u.toNat).toInt = (natB f k / 2 ^ (16 * (k / 2)) : Nat) + ((f k).toNat * 2 ^ (8 * (k % 2)) : Nat) := by
    have h1 : (dig (natB f k) (k / 2)).toInt = (natB f k / 2 ^ (16 * (k / 2)) : Nat) := by rw [toInt_of_lt _ (by rw [hd]; omega), hd]
    have h2 : ((f k).setWidth 64 <<< u.toNat).toInt = ((f k).toNat * 2 ^ (8 * (k % 2)) : Nat) := by rw [toInt_of_lt _ (by rw [hs]; omega), hs]
    rw [toInt_add_in _ _ (by rw [h1, h2]; omega), h1, h2]
  refine proper_dig (k := m) (fun i _ => ?_) ?_
  · by_cases hi : i = k / 2
    · subst hi
      rw [upd_self, hvt]
      omega
    · rw [upd_ne _ _ hi]
      exact dig_proper _ _
  · have h1 : (dig (natB f k) (k / 2)).toInt = (natB f k / 2 ^ (16 * (k / 2)) : Nat) := by rw [toInt_of_lt _ (by rw [hd]; omega), hd]
    have hlt : natB f k < 2 ^ (16 * m) := Nat.lt_of_lt_of_le hn (Nat.pow_le_pow_right (by decide) (by omega))
    rw [sumI_upd, if_pos (by omega), hvt, h1, sumI_dig, Nat.mod_eq_of_lt hlt, natB_succ]
    have e : 2 ^ (8 * k) = 2 ^ (8 * (k % 2)) * 2 ^ (16 * (k / 2)) := by rw [← Nat.pow_add]; congr 1; omega
    have e2 : ((natB f k / 2 ^ (16 * (k / 2)) : Nat) : Int) + ((f k).toNat * 2 ^ (8 * (k % 2)) : Nat) - ((natB f k / 2 ^ (16 * (k / 2)) : Nat) : Int) = ((f k).toNat * 2 ^ (8 * (k % 2)) : Nat) := by omega
    rw [e2, e, ← Nat.mul_assoc]
    simp

/-! ### twice a number, and a bit -/

def mixD (s r k : Nat) : Nat → BitVec 64 := fun i => if i < k then dig s i else dig r i
theorem mixD_zero (s r : Nat) : mixD s r 0 = dig r := by funext i; exact if_neg (Nat.not_lt_zero i)
theorem mixD_self (s r k : Nat) : mixD s r k k = dig r k := if_neg (Nat.lt_irrefl k)
theorem mixD_upd (s r k : Nat) : upd (mixD s r k) k (dig s k) = mixD s r (k + 1) := by
  funext i
  unfold upd mixD
  by_cases h : i = k
  · subst h; rw [if_pos rfl, if_pos (by omega)]
  · rw [if_neg h]
    by_cases h2 : i < k
    · rw [if_pos h2, if_pos (by omega)]
    · rw [if_neg h2, if_neg (by omega)]
theorem cI_mixD (s r k : Nat) : cI k (mixD s r k) = cI k (dig s) := cI_congr fun _ hi => if_pos hi
theorem dig_bit (n i : Nat) (u : BitVec 64) (hu : u.toNat = i % 16) : ((dig n (i / 16)).sshiftRight u.toNat &&& 1#64) = BitVec.ofNat 64 (n / 2 ^ i % 2) := by
  apply BitVec.eq_of_toInt_eq
  have hb : n / 2 ^ i % 2 < 2 := Nat.mod_lt _ (by decide)
  have hz : (BitVec.ofNat 64 (n / 2 ^ i % 2)).toNat = n / 2 ^ i % 2 := by rw [BitVec.toNat_ofNat]; omega
  rw [toInt_and_low _ 1#64 1 (by decide) rfl, toInt_sshr, dig_toInt, hu, toInt_of_lt _ (by rw [hz]; omega), hz]
  clear hz hb
  have e : 2 ^ i = 2 ^ (16 * (i / 16)) * 2 ^ (i % 16) := by rw [← Nat.pow_add]; congr 1; omega
  rw [e, ← Nat.div_div_eq_div_mul]
  generalize n / 2 ^ (16 * (i / 16)) = m
  have e2 : (65536 : Nat) = 2 ^ (i % 16) * (2 * 2 ^ (15 - i % 16)) := by
    rw [← Nat.pow_succ', ← Nat.pow_add, show i % 16 + (15 - i % 16).succ = 16 by omega]
  have e3 : m % 65536 / 2 ^ (i % 16) % 2 = m / 2 ^ (i % 16) % 2 := by
    rw [e2, Nat.mod_mul_right_div_self, Nat.mod_mul_right_mod]
  rw [← e3]
  simp
/-- A byte of a number's digits. -/
theorem dig_byt (n i : Nat) (u : BitVec 64) (hu : u.toNat = 8 * (i % 2)) : ((dig n (i / 2)).sshiftRight u.toNat &&& 255#64).setWidth 8 = byt n i := by
  have h1 : ((dig n (i / 2)).sshiftRight u.toNat &&& 255#64).toInt = ((n / 2 ^ (8 * i) % 256 : Nat) : Int) := by
    rw [toInt_and_low _ 255#64 8 (by decide) rfl, toInt_sshr, dig_toInt, hu]
    have e : 2 ^ (8 * i) = 2 ^ (16 * (i / 2)) * 2 ^ (8 * (i % 2)) := by rw [← Nat.pow_add]; congr 1; omega
    rw [e, ← Nat.div_div_eq_div_mul]
    generalize n / 2 ^ (16 * (i / 2)) = m
    have h : i % 2 = 0 ∨ i % 2 = 1 := by omega
    rcases h with h | h <;> rw [h] <;> simp <;> omega
  have hb : n / 2 ^ (8 * i) % 256 < 256 := Nat.mod_lt _ (by decide)
  apply BitVec.eq_of_toNat_eq
  rw [BitVec.toNat_setWidth, byt_toNat]
  generalize ((dig n (i / 2)).sshiftRight u.toNat &&& 255#64) = x at h1 ⊢
  have h3 := x.isLt
  rw [BitVec.toInt_eq_toNat_cond] at h1
  have e : (2 : Nat) ^ 8 = 256 := rfl
  rw [e]
  split at h1 <;> omega

/-! ### a number less the order -/

def subD (q p : Nat) : Nat → BitVec 64 := fun i => dig q i - dig p i
def mixS (q p k : Nat) : Nat → BitVec 64 := fun i => if i < k then dig q i - dig p i else dig q i
theorem mixS_zero (q p : Nat) : mixS q p 0 = dig q := by funext i; exact if_neg (Nat.not_lt_zero i)
theorem mixS_step (q p k : Nat) : upd (mixS q p k) k (mixS q p k k - dig p k) = mixS q p (k + 1) := by
  funext i
  have hs : mixS q p k k = dig q k := if_neg (Nat.lt_irrefl k)
  rw [hs]
  unfold upd mixS
  by_cases h : i = k
  · subst h; rw [if_pos rfl, if_pos (by omega)]
  · rw [if_neg h]
    by_cases h2 : i < k
    · rw [if_pos h2, if_pos (by omega)]
    · rw [if_neg h2, if_neg (by omega)]
theorem cI_mixS (q p k : Nat) : cI k (mixS q p k) = cI k (subD q p) := cI_congr fun _ hi => if_pos hi
theorem subD_toInt (q p i : Nat) : (subD q p i).toInt = (dig q i).toInt - (dig p i).toInt := by
  have h1 := dig_proper q i
  have h2 := dig_proper p i
  exact toInt_sub_in _ _ (by omega)
theorem subD_bound (q p : Nat) : ∀ i, -(65536 : Int) ≤ (subD q p i).toInt ∧ (subD q p i).toInt ≤ 65536 := by
  intro i
  have h1 := dig_proper q i
  have h2 := dig_proper p i
  rw [subD_toInt]
  omega
theorem subD_sum (q p : Nat) : ∀ k, sumI (subD q p) k = sumI (dig q) k - sumI (dig p) k := by
  intro k
  induction k with
  | zero => rfl
  | succ k ih =>
    simp only [sumI]
    rw [ih, subD_toInt, Int.sub_mul]
    omega
theorem sub_sign (q p k : Nat) (hq : q < 2 ^ (16 * (k + 1))) (hp : p < 2 ^ (16 * (k + 1))) : (0 ≤ (nrmTo (subD q p) k k).toInt ↔ p ≤ q) := by
  rw [carried_sign (b := 65536) (by omega) (subD_bound q p) k, subD_sum, sumI_dig, sumI_dig, Nat.mod_eq_of_lt hq, Nat.mod_eq_of_lt hp]
  omega
theorem sub_dig (q p k : Nat) (hq : q < 2 ^ (16 * (k + 1))) (hp : p ≤ q) : ∀ i, i < k + 1 → nrmTo (subD q p) k i = dig (q - p) i := by
  refine carried_dig (b := 65536) (by omega) (subD_bound q p) k (q - p) ?_ (by omega)
  rw [subD_sum, sumI_dig, sumI_dig, Nat.mod_eq_of_lt hq, Nat.mod_eq_of_lt (by omega)]
  omega

/-! ### a sum, a product -/

def addD (q p : Nat) : Nat → BitVec 64 := fun i => dig q i + dig p i
def mixA (q p k : Nat) : Nat → BitVec 64 := fun i => if i < k then dig q i + dig p i else dig q i
theorem mixA_zero (q p : Nat) : mixA q p 0 = dig q := by funext i; exact if_neg (Nat.not_lt_zero i)
theorem mixA_step (q p k : Nat) : upd (mixA q p k) k (mixA q p k k + dig p k) = mixA q p (k + 1) := by
  funext i
  have hs : mixA q p k k = dig q k := if_neg (Nat.lt_irrefl k)
  rw [hs]
  unfold upd mixA
  by_cases h : i = k
  · subst h; rw [if_pos rfl, if_pos (by omega)]
  · rw [if_neg h]
    by_cases h2 : i < k
    · rw [if_pos h2, if_pos (by omega)]
    · rw [if_neg h2, if_neg (by omega)]
theorem cI_mixA (q p k : Nat) : cI k (mixA q p k) = cI k (addD q p) := cI_congr fun _ hi => if_pos hi
theorem addD_toInt (q p i : Nat) : (addD q p i).toInt = (dig q i).toInt + (dig p i).toInt := by
  have h1 := dig_proper q i
  have h2 := dig_proper p i
  exact toInt_add_in _ _ (by omega)
theorem addD_bound (q p : Nat) : ∀ i, -(131072 : Int) ≤ (addD q p i).toInt ∧ (addD q p i).toInt ≤ 131072 := by
  intro i
  have h1 := dig_proper q i
  have h2 := dig_proper p i
  rw [addD_toInt]
  omega
theorem addD_sum (q p : Nat) : ∀ k, sumI (addD q p) k = sumI (dig q) k + sumI (dig p) k := by
  intro k
  induction k with
  | zero => rfl
  | succ k ih =>
    simp only [sumI]
    rw [ih, addD_toInt, Int.add_mul]
    omega
theorem add_dig (q p k : Nat) (h : q + p < 2 ^ (16 * (k + 1))) : ∀ i, i < k + 1 → nrmTo (addD q p) k i = dig (q + p) i := by
  refine carried_dig (b := 131072) (by omega) (addD_bound q p) k (q + p) ?_ h
  rw [addD_sum, sumI_dig, sumI_dig, Nat.mod_eq_of_lt (by omega), Nat.mod_eq_of_lt (by omega)]
  omega

/-- Digits that a product is added to, i digits of the one factor having been taken, and k of the other. -/
def MaIn (m a b c i k : Nat) (g : Nat → BitVec 64) : Prop :=
  sumI g m = (c : Int) + (a % 2 ^ (16 * i) : Nat) * (b % 2 ^ (16 * 16) : Nat) + (a / 2 ^ (16 * i) % 65536 : Nat) * (b % 2 ^ (16 * k) : Nat) * 2 ^ (16 * i) ∧ ∀ p, 0 ≤ (g p).toInt ∧ (g p).toInt ≤ 65535 + (16 * i + k) * 4294836225
theorem MaIn.start (m a b c : Nat) (hc : c < 2 ^ (16 * m)) : MaIn m a b c 0 0 (dig c) := by
  refine ⟨?_, fun p => by have := dig_proper c p; omega⟩
  rw [sumI_dig, Nat.mod_eq_of_lt hc]
  simp [Nat.mod_one]
theorem pow16_nat (k : Nat) : ((2 ^ (16 * k) : Nat) : Int) = 2 ^ (16 * k) := by simp
theorem ma_int (c A B d y Q P G : Int) (h : G = c + A * B + d * y * Q) (e : Int) : G + (d * e) * (Q * P) = c + A * B + d * (y + P * e) * Q := by
  rw [h, Int.mul_add, Int.add_mul]
  have : d * e * (Q * P) = d * (P * e) * Q := by
    rw [Int.mul_assoc, Int.mul_assoc d (P * e) Q, Int.mul_comm P e, Int.mul_assoc e P Q, Int.mul_comm Q P]
  rw [this]
  omega
theorem MaIn.step {m a b c i k : Nat} {g : Nat → BitVec 64} (hi : i < 16) (hk : k < 16) (hm : i + k < m) (h : MaIn m a b c i k g) : MaIn m a b c i (k + 1) (upd g (i + k) (g (i + k) + dig a i * dig b k)) := by
  have h1 := dig_proper a i
  have h2 := dig_proper b k
  have hp : 0 ≤ (dig a i).toInt * (dig b k).toInt ∧ (dig a i).toInt * (dig b k).toInt ≤ 4294836225 := by
    refine ⟨Int.mul_nonneg h1.1 h2.1, ?_⟩
    have h3 : (dig a i).toInt * (dig b k).toInt ≤ 65535 * (dig b k).toInt := Int.mul_le_mul_of_nonneg_right (by omega) h2.1
    omega
  have hg := h.2 (i + k)
  have e1 : (dig a i * dig b k).toInt = (dig a i).toInt * (dig b k).toInt := toInt_mul_in _ _ (by omega)
  have e2 : (g (i + k) + dig a i * dig b k).toInt = (g (i + k)).toInt + (dig a i).toInt * (dig b k).toInt := by
    rw [toInt_add_in _ _ (by rw [e1]; omega), e1]
  refine ⟨?_, fun p => ?_⟩
  · rw [sumI_upd, if_pos hm, e2]
    have e3 : (g (i + k)).toInt + (dig a i).toInt * (dig b k).toInt - (g (i + k)).toInt = (dig a i).toInt * (dig b k).toInt := by omega
    have e4 : (b % 2 ^ (16 * (k + 1)) : Nat) = b % 2 ^ (16 * k) + 2 ^ (16 * k) * (b / 2 ^ (16 * k) % 65536) := by
      rw [Nat.mul_succ, Nat.pow_add, Nat.mod_mul]
    rw [e3, e4, dig_toInt, dig_toInt, show 16 * (i + k) = 16 * i + 16 * k by omega, Int.pow_add, Int.natCast_add, Int.natCast_mul, pow16_nat]
    exact ma_int _ _ _ _ _ _ _ _ h.1 _
  · by_cases hpk : p = i + k
    · subst hpk
      rw [upd_self, e2]
      omega
    · rw [upd_ne _ _ hpk]
      have := h.2 p
      omega
theorem MaIn.next {m a b c i : Nat} {g : Nat → BitVec 64} (h : MaIn m a b c i 16 g) : MaIn m a b c (i + 1) 0 g := by
  refine ⟨?_, fun p => by have := h.2 p; omega⟩
  rw [h.1]
  have e4 : (a % 2 ^ (16 * (i + 1)) : Nat) = a % 2 ^ (16 * i) + 2 ^ (16 * i) * (a / 2 ^ (16 * i) % 65536) := by
    rw [Nat.mul_succ, Nat.pow_add, Nat.mod_mul]
  rw [e4, Int.natCast_add, Int.natCast_mul, pow16_nat]
  have e5 : ((b % 2 ^ (16 * 0) : Nat) : Int) = 0 := by simp [Nat.mod_one]
  rw [e5, Int.add_mul, Int.mul_zero, Int.zero_mul]
  generalize ((a / 2 ^ (16 * i) % 65536 : Nat) : Int) = d
  generalize ((b % 2 ^ (16 * 16) : Nat) : Int) = B
  generalize (2 : Int) ^ (16 * i) = Q
  have : Q * d * B = d * B * Q := by rw [Int.mul_comm Q d, Int.mul_assoc, Int.mul_comm Q B, Int.mul_assoc]
  rw [this]
  omega
theorem ma_dig {m a b c : Nat} {g : Nat → BitVec 64} (ha : a < 2 ^ (16 * 16)) (hb : b < 2 ^ (16 * 16)) (h : MaIn (m + 1) a b c 16 0 g) (hl : a * b + c < 2 ^ (16 * (m + 1))) : ∀ i, i < m + 1 → nrmTo g m i = dig (a * b + c) i := by
  refine carried_dig (b := 1152921504606846976) (by omega) (fun i => by have := h.2 i; omega) m (a * b + c) ?_ hl
  rw [h.1, Nat.mod_eq_of_lt ha, Nat.mod_eq_of_lt hb]
  have e5 : ((b % 2 ^ (16 * 0) : Nat) : Int) = 0 := by simp [Nat.mod_one]
  rw [e5, Int.mul_zero, Int.zero_mul]
  simp
  omega

/-- 2 to the 16 k. -/
def pd (k : Nat) : Nat := 2 ^ (16 * k)
theorem sub_sign' (q p k : Nat) (hq : q < pd (k + 1)) (hp : p < pd (k + 1)) : (0 ≤ (nrmTo (subD q p) k k).toInt ↔ p ≤ q) := sub_sign q p k hq hp
theorem sub_dig' (q p k : Nat) (hq : q < pd (k + 1)) (hp : p ≤ q) : ∀ i, i < k + 1 → nrmTo (subD q p) k i = dig (q - p) i := sub_dig q p k hq hp
theorem add_dig' (q p k : Nat) (h : q + p < pd (k + 1)) : ∀ i, i < k + 1 → nrmTo (addD q p) k i = dig (q + p) i := add_dig q p k h
theorem ma_dig' {m a b c : Nat} {g : Nat → BitVec 64} (ha : a < pd 16) (hb : b < pd 16) (h : MaIn (m + 1) a b c 16 0 g) (hl : a * b + c < pd (m + 1)) : ∀ i, i < m + 1 → nrmTo g m i = dig (a * b + c) i := ma_dig ha hb h hl
theorem MaIn.start' (m a b c : Nat) (hc : c < pd m) : MaIn m a b c 0 0 (dig c) := MaIn.start m a b c hc
theorem pd_add (j k : Nat) : pd j * pd k = pd (j + k) := by unfold pd; rw [Nat.mul_add, Nat.pow_add]
theorem lt_pd {n k m : Nat} (h : n < 2 ^ k) (hk : k ≤ 16 * m) : n < pd m := Nat.lt_of_lt_of_le h (Nat.pow_le_pow_right (by decide) hk)
theorem natB_pd (f : Nat → BitVec 8) {k m : Nat} (h : 8 * k ≤ 16 * m) : natB f k < pd m := lt_pd (natB_lt f k) h
theorem ofNat_toNat_lt {m : Nat} (h : m < 18446744073709551616) : (BitVec.ofNat 64 m).toNat = m := by rw [BitVec.toNat_ofNat]; omega
theorem pd_succ (k : Nat) : pd (k + 1) = pd k * 65536 := by unfold pd; rw [Nat.mul_succ, Nat.pow_add]

/-! ### the last step of norm -/
theorem p_lt16 : pP < 2 ^ (16 * (15 + 1)) := by decide +kernel
theorem top_digit : cI 16 (upd (upd (fil 0 (fun _ => 65535#64) 16) 0 65517#64) 15 32767#64) = cI 16 (dig pP) := cI_congr (by decide +kernel)
theorem norm_yes {n : Nat} (h2 : n < pP) : cI 16 (dig n) = cI 16 (dig (n % pP)) := by rw [Nat.mod_eq_of_lt h2]
theorem norm_no {n : Nat} (h : n < 2 ^ 255) (h2 : ¬ n < pP) : cI 16 (nrmTo (subD n pP) 15) = cI 16 (dig (n % pP)) := by
  have h3 : n % pP = n - pP := by
    have := pP_eq
    rw [Nat.mod_eq_sub_mod (by omega)]
    exact Nat.mod_eq_of_lt (by omega)
  rw [h3]
  exact cI_congr (sub_dig n pP 15 (Nat.lt_trans h (by decide +kernel)) (by omega))
/-! ### which is less -/
theorem dig_nat {m n i : Nat} (h : dig m i = dig n i) : m / 2 ^ (16 * i) % 65536 = n / 2 ^ (16 * i) % 65536 := by
  have := congrArg BitVec.toInt h
  rw [dig_toInt, dig_toInt] at this
  omega
theorem div_step (m j : Nat) : m / 2 ^ (16 * j) = m / 2 ^ (16 * (j + 1)) * 65536 + m / 2 ^ (16 * j) % 65536 := by
  have h : 2 ^ (16 * (j + 1)) = 2 ^ (16 * j) * 65536 := by rw [Nat.mul_succ, Nat.pow_add]
  rw [h, ← Nat.div_div_eq_div_mul]
  omega
theorem high_eq {m n : Nat} (hm : m < 2 ^ (16 * 16)) (hn : n < 2 ^ (16 * 16)) : ∀ d j, j + d = 16 → (∀ i, j ≤ i → i < 16 → dig m i = dig n i) → m / 2 ^ (16 * j) = n / 2 ^ (16 * j)
  | 0, j, hj, _ => by
    obtain rfl : j = 16 := hj
    rw [Nat.div_eq_of_lt hm, Nat.div_eq_of_lt hn]
  | d + 1, j, hj, h => by
    rw [div_step m j, div_step n j, high_eq hm hn d (j + 1) (by omega) (fun i h1 h2 => h i (by omega) h2), dig_nat (h j (Nat.le_refl _) (by omega))]
theorem below_at {m n j : Nat} (hm : m < 2 ^ (16 * 16)) (hn : n < 2 ^ (16 * 16)) (h : ∀ i, j < i → i < 16 → dig m i = dig n i) (hne : dig m j ≠ dig n j) (hj : j < 16) : decide ((dig m j).toInt < (dig n j).toInt) = decide (m < n) := by
  apply decide_eq_decide.2
  have e := high_eq hm hn (15 - j) (j + 1) (by omega) (fun i h1 h2 => h i (by omega) h2)
  have e1 := div_step m j
  have e2 := div_step n j
  have hq : m / 2 ^ (16 * j) % 65536 ≠ n / 2 ^ (16 * j) % 65536 := fun q => hne (by unfold dig; rw [q])
  rw [dig_toInt, dig_toInt]
  constructor
  · intro h1
    have : m / 2 ^ (16 * j) < n / 2 ^ (16 * j) := by omega
    exact Nat.lt_of_not_le fun h2 => Nat.lt_irrefl _ (Nat.lt_of_lt_of_le this (Nat.div_le_div_right h2))
  · intro h1
    have := Nat.div_le_div_right (c := 2 ^ (16 * j)) (Nat.le_of_lt h1)
    omega
theorem below_end {m n : Nat} (hm : m < 2 ^ (16 * 16)) (hn : n < 2 ^ (16 * 16)) (h : ∀ i, i < 16 → dig m i = dig n i) : false = decide (m < n) := by
  have e := high_eq hm hn 16 0 rfl (fun i _ h2 => h i h2)
  rw [Nat.mul_zero, Nat.pow_zero, Nat.div_one, Nat.div_one] at e
  exact (decide_eq_false (by omega)).symm
/-! ### sums of two -/
theorem p_lt256 : pP < 2 ^ (16 * 16) := by decide +kernel
theorem add_sum16 {m n : Nat} (hm : m < pP) (hn : n < pP) : sumI (addD m n) 16 = ((m + n : Nat) : Int) := by
  rw [addD_sum, sumI_dig, sumI_dig, Nat.mod_eq_of_lt (Nat.lt_trans hm p_lt256), Nat.mod_eq_of_lt (Nat.lt_trans hn p_lt256)]
  rfl
theorem p_lt299 : pP + pP < 2 ^ 300 := by decide +kernel
theorem add_lt300 {m n : Nat} (hm : m < pP) (hn : n < pP) : m + n < 2 ^ 300 := Nat.lt_trans (Nat.add_lt_add hm hn) p_lt299
def sub3 (m n : Nat) : Nat → BitVec 64 := fun i => dig m i + dig pP i - dig n i
theorem sub3_toInt (m n i : Nat) : (sub3 m n i).toInt = (dig m i).toInt + (dig pP i).toInt - (dig n i).toInt := by
  have h1 := dig_proper m i
  have h2 := dig_proper pP i
  have h3 := dig_proper n i
  unfold sub3
  have e := toInt_add_in (dig m i) (dig pP i) (by omega)
  rw [toInt_sub_in _ _ (by rw [e]; omega), e]
theorem sub3_bound (m n : Nat) : ∀ i, -(131072 : Int) ≤ (sub3 m n i).toInt ∧ (sub3 m n i).toInt ≤ 131072 := fun i => by
  have h1 := dig_proper m i
  have h2 := dig_proper pP i
  have h3 := dig_proper n i
  rw [sub3_toInt]; omega
theorem sub3_sum (m n : Nat) : ∀ k, sumI (sub3 m n) k = sumI (dig m) k + sumI (dig pP) k - sumI (dig n) k := by
  intro k
  induction k with
  | zero => rfl
  | succ k ih => simp only [sumI]; rw [ih, sub3_toInt, Int.sub_mul, Int.add_mul]; omega
theorem sub_sum16 {m n : Nat} (hm : m < pP) (hn : n < pP) : sumI (sub3 m n) 16 = ((m + pP - n : Nat) : Int) := by
  rw [sub3_sum, sumI_dig, sumI_dig, sumI_dig, Nat.mod_eq_of_lt (Nat.lt_trans hm p_lt256), Nat.mod_eq_of_lt (Nat.lt_trans hn p_lt256), Nat.mod_eq_of_lt p_lt256]
  omega
theorem sub_lt300 {m n : Nat} (hm : m < pP) : m + pP - n < 2 ^ 300 := Nat.lt_of_le_of_lt (Nat.sub_le _ _) (Nat.lt_trans (Nat.add_lt_add_right hm _) p_lt299)
theorem pd_pos (k : Nat) : 0 < pd k := Nat.pow_pos (by decide)
theorem cI_fil (m : Nat) (z : BitVec 64) (g : Nat → BitVec 64) : cI m (fil z g m) = cI m g := cI_congr fun i hi => by rw [fil_get, if_pos hi]
theorem cI_mapTo (m : Nat) (x z : Nat → BitVec 64) : cI m (mapTo x z m) = cI m z := cI_congr fun _ hi => if_pos hi
/-! ### a product, folded at 2^256 -/
def fold38 (g : Nat → BitVec 64) : Nat → BitVec 64 := fun i => g i + 38#64 * g (i + 16)
theorem sumI_shift (g : Nat → BitVec 64) (s : Nat) : ∀ k, sumI g (s + k) = sumI g s + 2 ^ (16 * s) * sumI (fun i => g (i + s)) k := by
  intro k
  induction k with
  | zero => simp [sumI]
  | succ k ih =>
    show sumI g (s + k) + (g (s + k)).toInt * 2 ^ (16 * (s + k)) = sumI g s + 2 ^ (16 * s) * (sumI (fun i => g (i + s)) k + (g (k + s)).toInt * 2 ^ (16 * k))
    rw [ih, Nat.mul_add, Int.pow_add, Nat.add_comm k s]
    generalize (2 : Int) ^ (16 * s) = A
    generalize (2 : Int) ^ (16 * k) = B
    grind
theorem fold38_toInt {g : Nat → BitVec 64} (hg : ∀ p, 0 ≤ (g p).toInt ∧ (g p).toInt ≤ 1099511627776 * 2) (i : Nat) : (fold38 g i).toInt = (g i).toInt + 38 * (g (i + 16)).toInt := by
  have h1 := hg i
  have h2 := hg (i + 16)
  have e : (38#64 : BitVec 64).toInt = 38 := rfl
  have e2 := toInt_mul_in 38#64 (g (i + 16)) (by rw [e]; omega)
  rw [e] at e2
  unfold fold38
  rw [toInt_add_in _ _ (by rw [e2]; omega), e2]
theorem fold38_sum {g : Nat → BitVec 64} (hg : ∀ p, 0 ≤ (g p).toInt ∧ (g p).toInt ≤ 1099511627776 * 2) : ∀ k, sumI (fold38 g) k = sumI g k + 38 * sumI (fun i => g (i + 16)) k := by
  intro k
  induction k with
  | zero => rfl
  | succ k ih =>
    simp only [sumI]
    rw [ih, fold38_toInt hg]
    grind
theorem sumI_le {g : Nat → BitVec 64} {B : Int} (hB : 0 ≤ B) (hg : ∀ p, 0 ≤ (g p).toInt ∧ (g p).toInt ≤ B) : ∀ k, 0 ≤ sumI g k ∧ sumI g k ≤ B * 2 ^ (16 * k) := by
  intro k
  induction k with
  | zero => exact ⟨Int.le_refl _, by show 0 ≤ B * 2 ^ (16 * 0); rw [show (2 : Int) ^ (16 * 0) = 1 from rfl]; omega⟩
  | succ k ih =>
    have hp := pow16_pos k
    have h1 := Int.mul_nonneg (hg k).1 (Int.le_of_lt hp)
    have h2 := Int.mul_le_mul_of_nonneg_right (hg k).2 (Int.le_of_lt hp)
    have h3 := Int.mul_nonneg hB (Int.le_of_lt hp)
    simp only [sumI]
    rw [pow16_succ, Int.mul_left_comm]
    omega
theorem sumI_le16 {g : Nat → BitVec 64} {B : Int} (hB : 0 ≤ B) (hg : ∀ p, 0 ≤ (g p).toInt ∧ (g p).toInt ≤ B) : 0 ≤ sumI g 16 ∧ sumI g 16 ≤ 2 * B * 2 ^ 240 := by
  refine ⟨(sumI_le hB hg 16).1, ?_⟩
  have h1 := (sumI_le hB hg 15).2
  have hp := pow16_pos 15
  have h2 := Int.mul_le_mul_of_nonneg_right (hg 15).2 (Int.le_of_lt hp)
  have e : sumI g 16 = sumI g 15 + (g 15).toInt * 2 ^ (16 * 15) := rfl
  rw [e]
  rw [show (2 : Int) ^ (16 * 15) = 2 ^ 240 from rfl] at *
  rw [Int.mul_assoc]
  omega
theorem pw38 : 2 ^ 256 = 38 + pP * 2 := by decide +kernel
theorem mul38 (S H P : Nat) (h : P = S + 2 ^ 256 * H) : (S + 38 * H) % pP = P % pP := by
  have e : P = S + 38 * H + pP * (2 * H) := by
    rw [h, pw38, Nat.add_mul, Nat.mul_assoc]; omega
  rw [e, Nat.add_mul_mod_self_left]
theorem lim300 (S H : Nat) (hS : S ≤ 4398046511104 * 2 ^ 240) (hH : H ≤ 4398046511104 * 2 ^ 240) : S + 38 * H < 2 ^ 300 := by
  have e : 2 ^ 300 = 2 ^ 60 * 2 ^ 240 := by decide +kernel
  have hp : 0 < 2 ^ 240 := by decide +kernel
  rw [e]
  generalize 2 ^ 240 = W at *
  omega
theorem lim_int {S : Nat} (b1 : (S : Int) ≤ 2 * (1099511627776 * 2) * 2 ^ 240) : S ≤ 4398046511104 * 2 ^ 240 := by
  have e : (2 : Int) ^ 240 = ((2 ^ 240 : Nat) : Int) := (Int.natCast_pow 2 240).symm
  rw [e] at b1
  generalize 2 ^ 240 = W at *
  omega
theorem mul_fold38 {x y : Nat} {g : Nat → BitVec 64} (hx : x < 2 ^ (16 * 16)) (hy : y < 2 ^ (16 * 16)) (h : MaIn 32 x y 0 16 0 g) :
    (∀ i, -(1152921504606846976 : Int) ≤ (fold38 g i).toInt ∧ (fold38 g i).toInt ≤ 1152921504606846976) ∧ ∃ T : Nat, sumI (fold38 g) 16 = (T : Int) ∧ T < 2 ^ 300 ∧ T % pP = x * y % pP := by
  have hg : ∀ p, 0 ≤ (g p).toInt ∧ (g p).toInt ≤ 1099511627776 * 2 := fun p => by have := h.2 p; omega
  refine ⟨fun i => by rw [fold38_toInt hg]; have := hg i; have := hg (i + 16); omega, ?_⟩
  obtain ⟨S, hS⟩ := Int.eq_ofNat_of_zero_le (sumI_le16 (by decide) hg).1
  have hg2 : ∀ p, 0 ≤ ((fun i => g (i + 16)) p).toInt ∧ ((fun i => g (i + 16)) p).toInt ≤ 1099511627776 * 2 := fun p => hg (p + 16)
  obtain ⟨H, hH⟩ := Int.eq_ofNat_of_zero_le (sumI_le16 (by decide) hg2).1
  have b1 := (sumI_le16 (by decide) hg).2
  have b2 := (sumI_le16 (by decide) hg2).2
  have e := h.1
  rw [show (32 : Nat) = 16 + 16 from rfl, sumI_shift g 16 16, hS, hH, Nat.mod_eq_of_lt hx, Nat.mod_eq_of_lt hy] at e
  rw [hS] at b1
  rw [hH] at b2
  refine ⟨S + 38 * H, by rw [fold38_sum hg, hS, hH]; rfl, lim300 S H (lim_int b1) (lim_int b2), mul38 S H _ ?_⟩
  have e5 : ((y % 2 ^ (16 * 0) : Nat) : Int) = 0 := by simp [Nat.mod_one]
  rw [e5, Int.mul_zero, Int.zero_mul] at e
  have e6 : (S : Int) + ((2 ^ 256 : Nat) : Int) * (H : Int) = (x : Int) * (y : Int) := by
    have := e
    rw [show (2 : Int) ^ (16 * 16) = ((2 ^ 256 : Nat) : Int) from (Int.natCast_pow 2 256).symm] at this
    omega
  exact_mod_cast e6.symm
end Go.Sym
