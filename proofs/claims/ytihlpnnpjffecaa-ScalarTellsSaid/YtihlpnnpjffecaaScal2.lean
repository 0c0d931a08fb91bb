/-
  The plain law of the definition's numbers modulo the order: by digits of 16 bits. No program is in sight here.
-/
import Derived.Test.YtihlpnnpjffecaaScal
import Derived.Test.YtihlpnnpjffecaaSymDigI
namespace Go.Sym
open Go

theorem upd_ne {α : Type} (f : Nat → α) {i j : Nat} (v : α) (h : j ≠ i) : upd f i v j = f j := by unfold upd; rw [if_neg h]
theorem upd_self {α : Type} (f : Nat → α) (i : Nat) (v : α) : upd f i v i = v := by unfold upd; rw [if_pos rfl]

theorem dig_zero : dig 0 = fun _ => 0 := by funext i; unfold dig; rw [Nat.zero_div]; rfl
theorem cI_dig {f : Nat → BitVec 64} {m n : Nat} (h : ∀ i, i < m → f i = dig n i) : cI m f = cI m (dig n) := cI_congr h

/-- A byte is laid into digits. -/
theorem dig_lay (f : Nat → BitVec 8) (k m : Nat) (hk : 8 * (k + 1) ≤ 16 * m) (u : BitVec 64) (hu : u.toNat = 8 * (k % 2)) :
    ∀ i, i < m → upd (dig (natB f k)) (k / 2) (dig (natB f k) (k / 2) + (f k).setWidth 64 <<< u.toNat) i = dig (natB f (k + 1)) i := by
  have hn := natB_lt f k
  have hc := (f k).isLt
  have hold : natB f k / 2 ^ (16 * (k / 2)) < 2 ^ (8 * (k % 2)) := by
    rw [Nat.div_lt_iff_lt_mul (Nat.two_pow_pos _), ← Nat.pow_add]
    exact (show 8 * (k % 2) + 16 * (k / 2) = 8 * k by omega) ▸ hn
  have hp : 2 ^ (8 * (k % 2)) ≤ 256 := by
    have : k % 2 = 0 ∨ k % 2 = 1 := by omega
    rcases this with h | h <;> rw [h] <;> decide
  have hd : (dig (natB f k) (k / 2)).toNat = natB f k / 2 ^ (16 * (k / 2)) := by rw [dig_toNat, Nat.mod_eq_of_lt (by omega)]
  have hs : ((f k).setWidth 64 <<< u.toNat).toNat = (f k).toNat * 2 ^ (8 * (k % 2)) := by
    rw [BitVec.toNat_shiftLeft, BitVec.toNat_setWidth, hu, Nat.shiftLeft_eq, Nat.mod_eq_of_lt (a := (f k).toNat) (by omega), Nat.mod_eq_of_lt]
    have := Nat.mul_le_mul (show (f k).toNat ≤ 255 by omega) hp
    omega
  have hv : (f k).toNat * 2 ^ (8 * (k % 2)) ≤ 65280 ∧ (k % 2 = 0 → (f k).toNat * 2 ^ (8 * (k % 2)) ≤ 255) := by
    refine ⟨?_, fun h => by rw [h]; simp; omega⟩
    have := Nat.mul_le_mul (show (f k).toNat ≤ 255 by omega) hp
    omega
  have hvt : (dig (natB f k) (k / 2) + (f k).setWidth 64 <<< u.toNat).toInt = (natB f k / 2 ^ (16 * (k / 2)) : Nat) + ((f k).toNat * 2 ^ (8 * (k % 2)) : Nat) := by
    have h1 : (dig (natB f k) (k / 2)).toInt = (natB f k / 2 ^ (16 * (k / 2)) : Nat) := by rw [toInt_of_lt _ (by rw [hd]; omega), hd]
    have h2 : ((f k).setWidth 64 <<< u.toNat).toInt = ((f k).toNat * 2 ^ (8 * (k % 2)) : Nat) := by rw [toInt_of_lt _ (by rw [hs]; omega), hs]
    rw [toInt_add_in _ _ (by rw [h1, h2]; omega), h1, h2]
  refine proper_dig (k := m) (fun i _ => ?_) ?_
  · by_cases hi : i = k / 2
    · subst hi
      rw [upd_self, hvt]
      omega
    · rw [upd_ne _ _ hi]
      exact dig_proper _ _
  · have h1 : (dig (natB f k) (k / 2)).toInt = (natB f k / 2 ^ (16 * (k / 2)) : Nat) := by rw [toInt_of_lt _ (by rw [hd]; omega), hd]
    have hlt : natB f k < 2 ^ (16 * m) := Nat.lt_of_lt_of_le hn (Nat.pow_le_pow_right (by decide) (by omega))
    rw [sumI_upd, if_pos (by omega), hvt, h1, sumI_dig, Nat.mod_eq_of_lt hlt, natB_succ]
    have e : 2 ^ (8 * k) = 2 ^ (8 * (k % 2)) * 2 ^ (16 * (k / 2)) := by rw [← Nat.pow_add]; congr 1; omega
    have e2 : ((natB f k / 2 ^ (16 * (k / 2)) : Nat) : Int) + ((f k).toNat * 2 ^ (8 * (k % 2)) : Nat) - ((natB f k / 2 ^ (16 * (k / 2)) : Nat) : Int) = ((f k).toNat * 2 ^ (8 * (k % 2)) : Nat) := by omega
    rw [e2, e, ← Nat.mul_assoc]
    simp

/-! ### twice a number, and a bit -/

def mixD (s r k : Nat) : Nat → BitVec 64 := fun i => if i < k then dig s i else dig r i
theorem mixD_zero (s r : Nat) : mixD s r 0 = dig r := by funext i; exact if_neg (Nat.not_lt_zero i)
theorem mixD_self (s r k : Nat) : mixD s r k k = dig r k := if_neg (Nat.lt_irrefl k)
theorem mixD_upd (s r k : Nat) : upd (mixD s r k) k (dig s k) = mixD s r (k + 1) := by
  funext i
  unfold upd mixD
  by_cases h : i = k
  · subst h; rw [if_pos rfl, if_pos (by omega)]
  · rw [if_neg h]
    by_cases h2 : i < k
    · rw [if_pos h2, if_pos (by omega)]
    · rw [if_neg h2, if_neg (by omega)]
theorem cI_mixD (s r k : Nat) : cI k (mixD s r k) = cI k (dig s) := cI_congr fun _ hi => if_pos hi

def dblC (r b k : Nat) : Nat := (2 * (r % 2 ^ (16 * k)) + b) / 2 ^ (16 * k)
theorem dblC_zero (r b : Nat) : dblC r b 0 = b := by simp [dblC, Nat.mod_one]
theorem dblC_le (r b k : Nat) (hb : b ≤ 1) : dblC r b k ≤ 1 := by
  have h1 : r % 2 ^ (16 * k) < 2 ^ (16 * k) := Nat.mod_lt _ (Nat.two_pow_pos _)
  have : dblC r b k < 2 := by unfold dblC; rw [Nat.div_lt_iff_lt_mul (Nat.two_pow_pos _)]; omega
  omega
theorem dbl_nat (r b M W : Nat) (hM : 0 < M) : (2 * r + b) / M = 2 * (r / M) + (2 * (r % M) + b) / M ∧ (2 * (r % (M * W)) + b) / (M * W) = (2 * (r / M % W) + (2 * (r % M) + b) / M) / W := by
  have h := Nat.div_add_mod r M
  constructor
  · have h2 : 2 * r + b = M * (2 * (r / M)) + (2 * (r % M) + b) := by rw [Nat.mul_left_comm]; omega
    rw [h2, Nat.mul_add_div hM]
  · rw [← Nat.div_div_eq_div_mul, Nat.mod_mul]
    congr 1
    have h2 : 2 * (r % M + M * (r / M % W)) + b = M * (2 * (r / M % W)) + (2 * (r % M) + b) := by rw [Nat.mul_left_comm]; omega
    rw [h2, Nat.mul_add_div hM]
theorem dbl_val (r b k : Nat) (hb : b ≤ 1) : (BitVec.ofNat 64 (dblC r b k) + 2#64 * dig r k).toNat = dblC r b k + 2 * (r / 2 ^ (16 * k) % 65536) := by
  have h := dblC_le r b k hb
  have hd := dig_toNat r k
  have h2 : r / 2 ^ (16 * k) % 65536 < 65536 := Nat.mod_lt _ (by decide)
  have e2 : (2#64).toNat = 2 := rfl
  rw [BitVec.toNat_add, BitVec.toNat_mul, BitVec.toNat_ofNat, e2, hd]
  have e3 : (2 : Nat) ^ 16 = 65536 := rfl
  rw [e3]
  omega
theorem dbl_digit (r b k : Nat) (hb : b ≤ 1) : (BitVec.ofNat 64 (dblC r b k) + 2#64 * dig r k) &&& 65535#64 = dig (2 * r + b) k := by
  apply BitVec.eq_of_toNat_eq
  have e : ∀ q : Nat, q &&& (65535#64).toNat = q % 65536 := fun q => Nat.and_two_pow_sub_one_eq_mod q 16
  rw [BitVec.toNat_and, e, dbl_val r b k hb, dig_toNat, (dbl_nat r b (2 ^ (16 * k)) 65536 (Nat.two_pow_pos _)).1]
  unfold dblC
  omega
theorem dbl_carry (r b k : Nat) (hb : b ≤ 1) : (BitVec.ofNat 64 (dblC r b k) + 2#64 * dig r k).sshiftRight 16 = BitVec.ofNat 64 (dblC r b (k + 1)) := by
  have hv := dbl_val r b k hb
  have hl := dblC_le r b k hb
  have h2 : r / 2 ^ (16 * k) % 65536 < 65536 := Nat.mod_lt _ (by decide)
  have hl2 := dblC_le r b (k + 1) hb
  apply BitVec.eq_of_toInt_eq
  have hz : (BitVec.ofNat 64 (dblC r b (k + 1))).toNat = dblC r b (k + 1) := by rw [BitVec.toNat_ofNat]; omega
  rw [toInt_sshr16, toInt_of_lt _ (by rw [hv]; omega), hv, toInt_of_lt _ (by rw [hz]; omega), hz]
  have e : dblC r b (k + 1) = (dblC r b k + 2 * (r / 2 ^ (16 * k) % 65536)) / 65536 := by
    have h3 := (dbl_nat r b (2 ^ (16 * k)) 65536 (Nat.two_pow_pos _)).2
    unfold dblC
    rw [show 16 * (k + 1) = 16 * k + 16 by omega, Nat.pow_add]
    have e3 : (2 : Nat) ^ 16 = 65536 := rfl
    rw [e3, h3, Nat.add_comm]
  rw [e]
  simp

/-- A bit of a number's digits. -/
theorem dig_bit (n i : Nat) (u : BitVec 64) (hu : u.toNat = i % 16) : ((dig n (i / 16)).sshiftRight u.toNat &&& 1#64) = BitVec.ofNat 64 (n / 2 ^ i % 2) := by
  apply BitVec.eq_of_toInt_eq
  have hb : n / 2 ^ i % 2 < 2 := Nat.mod_lt _ (by decide)
  have hz : (BitVec.ofNat 64 (n / 2 ^ i % 2)).toNat = n / 2 ^ i % 2 := by rw [BitVec.toNat_ofNat]; omega
  rw [toInt_and_low _ 1#64 1 (by decide) rfl, toInt_sshr, dig_toInt, hu, toInt_of_lt _ (by rw [hz]; omega), hz]
  clear hz hb
  have e : 2 ^ i = 2 ^ (16 * (i / 16)) * 2 ^ (i % 16) := by rw [← Nat.pow_add]; congr 1; omega
  rw [e, ← Nat.div_div_eq_div_mul]
  generalize n / 2 ^ (16 * (i / 16)) = m
  have e2 : (65536 : Nat) = 2 ^ (i % 16) * (2 * 2 ^ (15 - i % 16)) := by
    rw [← Nat.pow_succ', ← Nat.pow_add, show i % 16 + (15 - i % 16).succ = 16 by omega]
  have e3 : m % 65536 / 2 ^ (i % 16) % 2 = m / 2 ^ (i % 16) % 2 := by
    rw [e2, Nat.mod_mul_right_div_self, Nat.mod_mul_right_mod]
  rw [← e3]
  simp
/-- A byte of a number's digits. -/
theorem dig_byt (n i : Nat) (u : BitVec 64) (hu : u.toNat = 8 * (i % 2)) : ((dig n (i / 2)).sshiftRight u.toNat &&& 255#64).setWidth 8 = byt n i := by
  have h1 : ((dig n (i / 2)).sshiftRight u.toNat &&& 255#64).toInt = ((n / 2 ^ (8 * i) % 256 : Nat) : Int) := by
    rw [toInt_and_low _ 255#64 8 (by decide) rfl, toInt_sshr, dig_toInt, hu]
    have e : 2 ^ (8 * i) = 2 ^ (16 * (i / 2)) * 2 ^ (8 * (i % 2)) := by rw [← Nat.pow_add]; congr 1; omega
    rw [e, ← Nat.div_div_eq_div_mul]
    generalize n / 2 ^ (16 * (i / 2)) = m
    have h : i % 2 = 0 ∨ i % 2 = 1 := by omega
    rcases h with h | h <;> rw [h] <;> simp <;> omega
  have hb : n / 2 ^ (8 * i) % 256 < 256 := Nat.mod_lt _ (by decide)
  apply BitVec.eq_of_toNat_eq
  rw [BitVec.toNat_setWidth, byt_toNat]
  generalize ((dig n (i / 2)).sshiftRight u.toNat &&& 255#64) = x at h1 ⊢
  have h3 := x.isLt
  rw [BitVec.toInt_eq_toNat_cond] at h1
  have e : (2 : Nat) ^ 8 = 256 := rfl
  rw [e]
  split at h1 <;> omega

/-! ### a number less the order -/

def subD (q p : Nat) : Nat → BitVec 64 := fun i => dig q i - dig p i
def mixS (q p k : Nat) : Nat → BitVec 64 := fun i => if i < k then dig q i - dig p i else dig q i
theorem mixS_zero (q p : Nat) : mixS q p 0 = dig q := by funext i; exact if_neg (Nat.not_lt_zero i)
theorem mixS_step (q p k : Nat) : upd (mixS q p k) k (mixS q p k k - dig p k) = mixS q p (k + 1) := by
  funext i
  have hs : mixS q p k k = dig q k := if_neg (Nat.lt_irrefl k)
  rw [hs]
  unfold upd mixS
  by_cases h : i = k
  · subst h; rw [if_pos rfl, if_pos (by omega)]
  · rw [if_neg h]
    by_cases h2 : i < k
    · rw [if_pos h2, if_pos (by omega)]
    · rw [if_neg h2, if_neg (by omega)]
theorem cI_mixS (q p k : Nat) : cI k (mixS q p k) = cI k (subD q p) := cI_congr fun _ hi => if_pos hi
theorem subD_toInt (q p i : Nat) : (subD q p i).toInt = (dig q i).toInt - (dig p i).toInt := by
  have h1 := dig_proper q i
  have h2 := dig_proper p i
  exact toInt_sub_in _ _ (by omega)
theorem subD_bound (q p : Nat) : ∀ i, -(65536 : Int) ≤ (subD q p i).toInt ∧ (subD q p i).toInt ≤ 65536 := by
  intro i
  have h1 := dig_proper q i
  have h2 := dig_proper p i
  rw [subD_toInt]
  omega
theorem subD_sum (q p : Nat) : ∀ k, sumI (subD q p) k = sumI (dig q) k - sumI (dig p) k := by
  intro k
  induction k with
  | zero => rfl
  | succ k ih =>
    simp only [sumI]
    rw [ih, subD_toInt, Int.sub_mul]
    omega
theorem sub_sign (q p k : Nat) (hq : q < 2 ^ (16 * (k + 1))) (hp : p < 2 ^ (16 * (k + 1))) : (0 ≤ (nrmTo (subD q p) k k).toInt ↔ p ≤ q) := by
  rw [carried_sign (b := 65536) (by omega) (subD_bound q p) k, subD_sum, sumI_dig, sumI_dig, Nat.mod_eq_of_lt hq, Nat.mod_eq_of_lt hp]
  omega
theorem sub_dig (q p k : Nat) (hq : q < 2 ^ (16 * (k + 1))) (hp : p ≤ q) : ∀ i, i < k + 1 → nrmTo (subD q p) k i = dig (q - p) i := by
  refine carried_dig (b := 65536) (by omega) (subD_bound q p) k (q - p) ?_ (by omega)
  rw [subD_sum, sumI_dig, sumI_dig, Nat.mod_eq_of_lt hq, Nat.mod_eq_of_lt (by omega)]
  omega

/-! ### a sum, a product -/

def addD (q p : Nat) : Nat → BitVec 64 := fun i => dig q i + dig p i
def mixA (q p k : Nat) : Nat → BitVec 64 := fun i => if i < k then dig q i + dig p i else dig q i
theorem mixA_zero (q p : Nat) : mixA q p 0 = dig q := by funext i; exact if_neg (Nat.not_lt_zero i)
theorem mixA_step (q p k : Nat) : upd (mixA q p k) k (mixA q p k k + dig p k) = mixA q p (k + 1) := by
  funext i
  have hs : mixA q p k k = dig q k := if_neg (Nat.lt_irrefl k)
  rw [hs]
  unfold upd mixA
  by_cases h : i = k
  · subst h; rw [if_pos rfl, if_pos (by omega)]
  · rw [if_neg h]
    by_cases h2 : i < k
    · rw [if_pos h2, if_pos (by omega)]
    · rw [if_neg h2, if_neg (by omega)]
theorem cI_mixA (q p k : Nat) : cI k (mixA q p k) = cI k (addD q p) := cI_congr fun _ hi => if_pos hi
theorem addD_toInt (q p i : Nat) : (addD q p i).toInt = (dig q i).toInt + (dig p i).toInt := by
  have h1 := dig_proper q i
  have h2 := dig_proper p i
  exact toInt_add_in _ _ (by omega)
theorem addD_bound (q p : Nat) : ∀ i, -(131072 : Int) ≤ (addD q p i).toInt ∧ (addD q p i).toInt ≤ 131072 := by
  intro i
  have h1 := dig_proper q i
  have h2 := dig_proper p i
  rw [addD_toInt]
  omega
theorem addD_sum (q p : Nat) : ∀ k, sumI (addD q p) k = sumI (dig q) k + sumI (dig p) k := by
  intro k
  induction k with
  | zero => rfl
  | succ k ih =>
    simp only [sumI]
    rw [ih, addD_toInt, Int.add_mul]
    omega
theorem add_dig (q p k : Nat) (h : q + p < 2 ^ (16 * (k + 1))) : ∀ i, i < k + 1 → nrmTo (addD q p) k i = dig (q + p) i := by
  refine carried_dig (b := 131072) (by omega) (addD_bound q p) k (q + p) ?_ h
  rw [addD_sum, sumI_dig, sumI_dig, Nat.mod_eq_of_lt (by omega), Nat.mod_eq_of_lt (by omega)]
  omega

/-- Digits that a product is added to, i digits of the one factor having been taken, and k of the other. -/
def MaIn (m a b c i k : Nat) (g : Nat → BitVec 64) : Prop :=
  sumI g m = (c : Int) + (a % 2 ^ (16 * i) : Nat) * (b % 2 ^ (16 * 16) : Nat) + (a / 2 ^ (16 * i) % 65536 : Nat) * (b % 2 ^ (16 * k) : Nat) * 2 ^ (16 * i) ∧ ∀ p, 0 ≤ (g p).toInt ∧ (g p).toInt ≤ 65535 + (16 * i + k) * 4294836225
theorem MaIn.start (m a b c : Nat) (hc : c < 2 ^ (16 * m)) : MaIn m a b c 0 0 (dig c) := by
  refine ⟨?_, fun p => by have := dig_proper c p; omega⟩
  rw [sumI_dig, Nat.mod_eq_of_lt hc]
  simp [Nat.mod_one]
theorem pow16_nat (k : Nat) : ((2 ^ (16 * k) : Nat) : Int) = 2 ^ (16 * k) := by simp
theorem ma_int (c A B d y Q P G : Int) (h : G = c + A * B + d * y * Q) (e : Int) : G + (d * e) * (Q * P) = c + A * B + d * (y + P * e) * Q := by
  rw [h, Int.mul_add, Int.add_mul]
  have : d * e * (Q * P) = d * (P * e) * Q := by
    rw [Int.mul_assoc, Int.mul_assoc d (P * e) Q, Int.mul_comm P e, Int.mul_assoc e P Q, Int.mul_comm Q P]
  rw [this]
  omega
theorem MaIn.step {m a b c i k : Nat} {g : Nat → BitVec 64} (hi : i < 16) (hk : k < 16) (hm : i + k < m) (h : MaIn m a b c i k g) : MaIn m a b c i (k + 1) (upd g (i + k) (g (i + k) + dig a i * dig b k)) := by
  have h1 := dig_proper a i
  have h2 := dig_proper b k
  have hp : 0 ≤ (dig a i).toInt * (dig b k).toInt ∧ (dig a i).toInt * (dig b k).toInt ≤ 4294836225 := by
    refine ⟨Int.mul_nonneg h1.1 h2.1, ?_⟩
    have h3 : (dig a i).toInt * (dig b k).toInt ≤ 65535 * (dig b k).toInt := Int.mul_le_mul_of_nonneg_right (by omega) h2.1
    omega
  have hg := h.2 (i + k)
  have e1 : (dig a i * dig b k).toInt = (dig a i).toInt * (dig b k).toInt := toInt_mul_in _ _ (by omega)
  have e2 : (g (i + k) + dig a i * dig b k).toInt = (g (i + k)).toInt + (dig a i).toInt * (dig b k).toInt := by
    rw [toInt_add_in _ _ (by rw [e1]; omega), e1]
  refine ⟨?_, fun p => ?_⟩
  · rw [sumI_upd, if_pos hm, e2]
    have e3 : (g (i + k)).toInt + (dig a i).toInt * (dig b k).toInt - (g (i + k)).toInt = (dig a i).toInt * (dig b k).toInt := by omega
    have e4 : (b % 2 ^ (16 * (k + 1)) : Nat) = b % 2 ^ (16 * k) + 2 ^ (16 * k) * (b / 2 ^ (16 * k) % 65536) := by
      rw [Nat.mul_succ, Nat.pow_add, Nat.mod_mul]
    rw [e3, e4, dig_toInt, dig_toInt, show 16 * (i + k) = 16 * i + 16 * k by omega, Int.pow_add, Int.natCast_add, Int.natCast_mul, pow16_nat]
    exact ma_int _ _ _ _ _ _ _ _ h.1 _
  · by_cases hpk : p = i + k
    · subst hpk
      rw [upd_self, e2]
      omega
    · rw [upd_ne _ _ hpk]
      have := h.2 p
      omega
theorem MaIn.next {m a b c i : Nat} {g : Nat → BitVec 64} (h : MaIn m a b c i 16 g) : MaIn m a b c (i + 1) 0 g := by
  refine ⟨?_, fun p => by have := h.2 p; omega⟩
  rw [h.1]
  have e4 : (a % 2 ^ (16 * (i + 1)) : Nat) = a % 2 ^ (16 * i) + 2 ^ (16 * i) * (a / 2 ^ (16 * i) % 65536) := by
    rw [Nat.mul_succ, Nat.pow_add, Nat.mod_mul]
  rw [e4, Int.natCast_add, Int.natCast_mul, pow16_nat]
  have e5 : ((b % 2 ^ (16 * 0) : Nat) : Int) = 0 := by simp [Nat.mod_one]
  rw [e5, Int.add_mul, Int.mul_zero, Int.zero_mul]
  generalize ((a / 2 ^ (16 * i) % 65536 : Nat) : Int) = d
  generalize ((b % 2 ^ (16 * 16) : Nat) : Int) = B
  generalize (2 : Int) ^ (16 * i) = Q
  have : Q * d * B = d * B * Q := by rw [Int.mul_comm Q d, Int.mul_assoc, Int.mul_comm Q B, Int.mul_assoc]
  rw [this]
  omega
theorem ma_dig {m a b c : Nat} {g : Nat → BitVec 64} (ha : a < 2 ^ (16 * 16)) (hb : b < 2 ^ (16 * 16)) (h : MaIn (m + 1) a b c 16 0 g) (hl : a * b + c < 2 ^ (16 * (m + 1))) : ∀ i, i < m + 1 → nrmTo g m i = dig (a * b + c) i := by
  refine carried_dig (b := 1152921504606846976) (by omega) (fun i => by have := h.2 i; omega) m (a * b + c) ?_ hl
  rw [h.1, Nat.mod_eq_of_lt ha, Nat.mod_eq_of_lt hb]
  have e5 : ((b % 2 ^ (16 * 0) : Nat) : Int) = 0 := by simp [Nat.mod_one]
  rw [e5, Int.mul_zero, Int.zero_mul]
  simp
  omega

/-- 2 to the 16 k. -/
def pd (k : Nat) : Nat := 2 ^ (16 * k)
theorem sub_sign' (q p k : Nat) (hq : q < pd (k + 1)) (hp : p < pd (k + 1)) : (0 ≤ (nrmTo (subD q p) k k).toInt ↔ p ≤ q) := sub_sign q p k hq hp
theorem sub_dig' (q p k : Nat) (hq : q < pd (k + 1)) (hp : p ≤ q) : ∀ i, i < k + 1 → nrmTo (subD q p) k i = dig (q - p) i := sub_dig q p k hq hp
theorem add_dig' (q p k : Nat) (h : q + p < pd (k + 1)) : ∀ i, i < k + 1 → nrmTo (addD q p) k i = dig (q + p) i := add_dig q p k h
theorem ma_dig' {m a b c : Nat} {g : Nat → BitVec 64} (ha : a < pd 16) (hb : b < pd 16) (h : MaIn (m + 1) a b c 16 0 g) (hl : a * b + c < pd (m + 1)) : ∀ i, i < m + 1 → nrmTo g m i = dig (a * b + c) i := ma_dig ha hb h hl
theorem MaIn.start' (m a b c : Nat) (hc : c < pd m) : MaIn m a b c 0 0 (dig c) := MaIn.start m a b c hc
theorem pd_add (j k : Nat) : pd j * pd k = pd (j + k) := by unfold pd; rw [Nat.mul_add, Nat.pow_add]
theorem red_pd {n k : Nat} (h : n < pd k) : red n (16 * k) = 0 := red_top n _ h
theorem lt_pd {n k m : Nat} (h : n < 2 ^ k) (hk : k ≤ 16 * m) : n < pd m := Nat.lt_of_lt_of_le h (Nat.pow_le_pow_right (by decide) hk)
theorem natB_pd (f : Nat → BitVec 8) {k m : Nat} (h : 8 * k ≤ 16 * m) : natB f k < pd m := lt_pd (natB_lt f k) h
theorem step_bound (n i : Nat) : 2 * red n (i + 1) + n / 2 ^ i % 2 < 2 ^ 254 := by
  have h1 := red_lt n (i + 1)
  have h2 := ordL_lt
  have h3 : n / 2 ^ i % 2 < 2 := Nat.mod_lt _ (by decide)
  rw [Nat.pow_succ]; omega
theorem red_mod {n i q : Nat} (hq : q = 2 * red n (i + 1) + n / 2 ^ i % 2) : red n i = if ordL ≤ q then q - ordL else q := by
  have h1 := red_step n i
  rw [← hq] at h1
  have h2 := red_lt n (i + 1)
  have h3 : n / 2 ^ i % 2 < 2 := Nat.mod_lt _ (by decide)
  have hl : q < 2 * ordL := by omega
  rw [h1]
  split
  · rename_i h
    rw [Nat.mod_eq_sub_mod h, Nat.mod_eq_of_lt (by omega)]
  · rename_i h
    rw [Nat.mod_eq_of_lt (by omega)]
theorem mod_yes {n i q : Nat} (hq : q = 2 * red n (i + 1) + n / 2 ^ i % 2) (h : (0#64).toInt ≤ (nrmTo (subD q ordL) 16 16).toInt) : cI 17 (nrmTo (subD q ordL) 16) = cI 17 (dig (red n i)) := by
  have hb : q < pd 17 := lt_pd (hq ▸ step_bound n i) (by decide)
  have hp : ordL < pd 17 := lt_pd ordL_lt (by decide)
  have hle : ordL ≤ q := (sub_sign' q ordL 16 hb hp).1 h
  rw [red_mod hq, if_pos hle]
  exact cI_congr (sub_dig' q ordL 16 hb hle)
theorem mod_no {n i q : Nat} (hq : q = 2 * red n (i + 1) + n / 2 ^ i % 2) (h : ¬ (0#64).toInt ≤ (nrmTo (subD q ordL) 16 16).toInt) : cI 17 (dig q) = cI 17 (dig (red n i)) := by
  have hb : q < pd 17 := lt_pd (hq ▸ step_bound n i) (by decide)
  have hp : ordL < pd 17 := lt_pd ordL_lt (by decide)
  have hle : ¬ ordL ≤ q := fun e => h ((sub_sign' q ordL 16 hb hp).2 e)
  rw [red_mod hq, if_neg hle]
theorem natB_bytL {r : Nat} (h : r < 2 ^ 256) : natB (byt r) 32 = r := by rw [natB_byt]; exact Nat.mod_eq_of_lt h
theorem mod_lt256 (n : Nat) : n % ordL < 2 ^ 256 := Nat.lt_of_lt_of_le (Nat.lt_trans (Nat.mod_lt _ ordL_pos) ordL_lt) (by decide +kernel)
theorem ord_lt256 : ordL < 2 ^ 256 := by decide +kernel
theorem ofNat_toNat_lt {m : Nat} (h : m < 18446744073709551616) : (BitVec.ofNat 64 m).toNat = m := by rw [BitVec.toNat_ofNat]; omega

theorem pd_succ (k : Nat) : pd (k + 1) = pd k * 65536 := by unfold pd; rw [Nat.mul_succ, Nat.pow_add]
theorem sum_pd (f g : Nat → BitVec 8) : natB f 32 + natB g 32 < pd 34 := by
  have h1 := natB_pd f (k := 32) (m := 33) (by decide)
  have h2 := natB_pd g (k := 32) (m := 33) (by decide)
  have h3 : pd 34 = pd 33 * 65536 := pd_succ 33
  rw [h3]
  omega
theorem le_twice (t : Nat) : t ≤ t * 65536 * 65536 := by omega
theorem mad_pd (f g h : Nat → BitVec 8) : natB f 32 * natB g 32 + natB h 32 < pd 34 := by
  have h1 := mad_lt_sq (natB_pd f (k := 32) (m := 16) (by decide)) (natB_pd g (k := 32) (m := 16) (by decide)) (natB_pd h (k := 32) (m := 16) (by decide))
  have h2 : pd 16 * pd 16 = pd 32 := pd_add 16 16
  have h3 : pd 33 = pd 32 * 65536 := pd_succ 32
  have h4 : pd 34 = pd 33 * 65536 := pd_succ 33
  rw [h4, h3, ← h2]
  exact Nat.lt_of_lt_of_le h1 (le_twice _)
theorem sum_cells (f g : Nat → BitVec 8) : cI 34 (nrmTo (addD (natB f 32) (natB g 32)) 33) = cI 34 (dig (natB f 32 + natB g 32)) := cI_congr (add_dig' _ _ 33 (sum_pd f g))
theorem lack_pd (r : Nat) : ordL - r < pd 34 := Nat.lt_of_le_of_lt (Nat.sub_le _ _) (lt_pd ordL_lt (by decide))
theorem minus_cells {r : Nat} (h : r ≤ ordL) : cI 34 (nrmTo (subD ordL r) 33) = cI 34 (dig (ordL - r)) := cI_congr (sub_dig' ordL r 33 (lt_pd ordL_lt (by decide) : ordL < pd 34) h)
theorem mad_cells (f g h : Nat → BitVec 8) {z : Nat → BitVec 64} (hz : MaIn 34 (natB f 32) (natB g 32) (natB h 32) 16 0 z) : cI 34 (nrmTo z 33) = cI 34 (dig (natB f 32 * natB g 32 + natB h 32)) :=
  cI_congr (ma_dig' (natB_pd f (k := 32) (m := 16) (by decide)) (natB_pd g (k := 32) (m := 16) (by decide)) hz (mad_pd f g h))

/-! ### a bit of bytes -/

def bitZ (f : Nat → BitVec 8) (i : Int) : Nat := if 0 ≤ i ∧ i < 256 then natB f 32 / 2 ^ i.toNat % 2 else 0
theorem bitZ_out {f : Nat → BitVec 8} {i : Int} (h : i < 0 ∨ 256 ≤ i) : bitZ f i = 0 := if_neg (by omega)
theorem byte_bit (f : Nat → BitVec 8) (p : Nat) (h : p < 256) : (f (p / 8) >>> (p % 8) &&& 1#8).toNat = natB f 32 / 2 ^ p % 2 := by
  have h1 := byt_natB f 32 (p / 8) (by omega)
  rw [BitVec.toNat_and, BitVec.toNat_ushiftRight, ← h1, byt_toNat, Nat.shiftRight_eq_div_pow]
  generalize natB f 32 = n
  have e : 2 ^ p = 2 ^ (8 * (p / 8)) * 2 ^ (p % 8) := by rw [← Nat.pow_add]; congr 1; omega
  rw [e, ← Nat.div_div_eq_div_mul]
  generalize n / 2 ^ (8 * (p / 8)) = m
  have e2 : (2 : Nat) ^ 8 = 2 ^ (p % 8) * (2 * 2 ^ (7 - p % 8)) := by rw [← Nat.pow_succ', ← Nat.pow_add]; congr 1; omega
  rw [e2, Nat.mod_mul_right_div_self]
  have h1 : ∀ q : Nat, q &&& (1#8).toNat = q % 2 := fun q => Nat.and_two_pow_sub_one_eq_mod q 1
  rw [h1, Nat.mod_mul_right_mod]
theorem bitZ_in (f : Nat → BitVec 8) (p : Nat) (h : p < 256) : (f (p / 8) >>> (p % 8) &&& 1#8).toNat = bitZ f (p : Int) := by
  rw [byte_bit f p h]
  unfold bitZ
  rw [if_pos (by omega)]
  rfl
theorem and1 (q : Nat) : q &&& 1 = q % 2 := Nat.and_two_pow_sub_one_eq_mod q 1
theorem rbit_in (f : Nat → BitVec 8) (p : Nat) (h : p < 256) : (f (p / 8) >>> (p % 8)).toNat % 2 = bitZ f (p : Int) := by
  rw [← bitZ_in f p h, BitVec.toNat_and]
  exact (and1 _).symm
/-- a number's lowest bit -/
theorem b_andN1 (t : TypeId) (x : Nat) (h : x < 9223372036854775808) : binOp .and t (N x) (N 1) = pure (N (x % 2)) := by
  have e : ∀ y : Nat, y < 9223372036854775808 → N y = I (BitVec.ofNat 64 y) := fun y hy => by
    unfold N I
    have h1 : (BitVec.ofNat 64 y).toNat = y := by rw [BitVec.toNat_ofNat]; omega
    rw [toInt_of_lt _ (by rw [h1]; exact hy), h1]
  rw [e x h, e 1 (by decide), b_andI, e (x % 2) (by omega)]
  congr 2
  apply BitVec.eq_of_toNat_eq
  rw [BitVec.toNat_and, BitVec.toNat_ofNat, BitVec.toNat_ofNat, BitVec.toNat_ofNat]
  have h1 : (1 : Nat) % 2 ^ 64 = 1 := rfl
  rw [h1, and1]
  omega
end Go.Sym
