/-
  Products of numbers by limbs, row by row, and roots found bit by bit. No program is in sight here.
-/
import Derived.Test.YtedlgmjpifokdaaSymInt
import Derived.Test.YtedlgmjpifokdaaSymDig
namespace Go.Sym
open Go

theorem upd_ne {α : Type} (f : Nat → α) {i j : Nat} (v : α) (h : j ≠ i) : upd f i v j = f j := by unfold upd; rw [if_neg h]
theorem upd_self {α : Type} (f : Nat → α) (i : Nat) (v : α) : upd f i v i = v := by unfold upd; rw [if_pos rfl]
def macLo (x y c o : BitVec 64) : BitVec 64 := o + (x * y + c + 0#64) + 0#64
def macHi (x y c o : BitVec 64) : BitVec 64 := mulHi x y + cout (x * y) c 0#64 + cout o (x * y + c + 0#64) 0#64
theorem mac_fin (b lo hi m c o k1 k2 s1 s2 : Nat) (h1 : hi * b + lo = m) (d1 : b * k1 + s1 = lo + c) (d2 : b * k2 + s2 = o + s1) : (hi + k1 + k2) * b + s2 = m + c + o := by
  rw [Nat.add_mul, Nat.add_mul, Nat.mul_comm k1, Nat.mul_comm k2]
  omega
theorem mac_nat (lo hi m c o : Nat) (h1 : hi * 18446744073709551616 + lo = m) (hb : m ≤ 340282366920938463426481119284349108225) (h2 : lo < 18446744073709551616) (h3 : c < 18446744073709551616) (h4 : o < 18446744073709551616) :
    (((hi + (lo + c + 0) / 18446744073709551616 % 18446744073709551616) % 18446744073709551616 + (o + (((lo + c) % 18446744073709551616 + 0) % 18446744073709551616) + 0) / 18446744073709551616 % 18446744073709551616) % 18446744073709551616) * 18446744073709551616 +
      ((o + ((lo + c) % 18446744073709551616 + 0) % 18446744073709551616) % 18446744073709551616 + 0) % 18446744073709551616 = m + c + o := by
  simp only [Nat.add_zero, Nat.mod_mod]
  have d1 := Nat.div_add_mod (lo + c) 18446744073709551616
  have m1 := Nat.mod_lt (lo + c) (show 0 < 18446744073709551616 by decide)
  generalize (lo + c) / 18446744073709551616 = k1 at d1 ⊢
  generalize (lo + c) % 18446744073709551616 = s1 at d1 m1 ⊢
  have d2 := Nat.div_add_mod (o + s1) 18446744073709551616
  have m2 := Nat.mod_lt (o + s1) (show 0 < 18446744073709551616 by decide)
  generalize (o + s1) / 18446744073709551616 = k2 at d2 ⊢
  generalize (o + s1) % 18446744073709551616 = s2 at d2 m2 ⊢
  have b1 : k1 ≤ 1 := by omega
  have b2 : k2 ≤ 1 := by omega
  have b3 : hi + k1 + k2 < 18446744073709551616 := by omega
  rw [Nat.mod_eq_of_lt (a := k1) (by omega), Nat.mod_eq_of_lt (a := k2) (by omega), Nat.mod_eq_of_lt (a := hi + k1) (by omega), Nat.mod_eq_of_lt b3]
  exact mac_fin _ _ _ _ _ _ _ _ _ _ h1 d1 d2
theorem mac_spec (x y c o : BitVec 64) : (macHi x y c o).toNat * 18446744073709551616 + (macLo x y c o).toNat = x.toNat * y.toNat + c.toNat + o.toNat := by
  have hx := x.isLt
  have hy := y.isLt
  have hb : x.toNat * y.toNat ≤ 340282366920938463426481119284349108225 := Nat.mul_le_mul (show x.toNat ≤ 18446744073709551615 by omega) (show y.toNat ≤ 18446744073709551615 by omega)
  have key := mac_nat _ _ _ _ _ (mul_split x y) hb (x * y).isLt c.isLt o.isLt
  have add0 : ∀ u v : BitVec 64, (u + v).toNat = (u.toNat + v.toNat) % 18446744073709551616 := fun u v => BitVec.toNat_add u v
  have of0 : ∀ q : Nat, (BitVec.ofNat 64 q).toNat = q % 18446744073709551616 := fun q => BitVec.toNat_ofNat q 64
  unfold macHi macLo cout
  simp only [add0, of0]
  exact key


/-! ### a row of a product, in any base -/
def rowQ (w P a B i k : Nat) : Nat := P % 2 ^ (w * (i + k)) + a * (B % 2 ^ (w * k)) * 2 ^ (w * i)
theorem pow_part (w i k : Nat) : 2 ^ (w * (i + k)) = 2 ^ (w * k) * 2 ^ (w * i) := by rw [← Nat.pow_add]; congr 1; rw [Nat.mul_add]; omega
theorem pow_up (w k : Nat) : 2 ^ (w * (k + 1)) = 2 ^ (w * k) * 2 ^ w := by rw [← Nat.pow_add]; rfl
theorem rowQ_zero (w P a B i : Nat) : rowQ w P a B i 0 = P % 2 ^ (w * i) := by unfold rowQ; simp [Nat.mod_one]
theorem rowQ_succ (w P a B i k : Nat) : rowQ w P a B i (k + 1) = rowQ w P a B i k + (P / 2 ^ (w * (i + k)) % 2 ^ w + a * (B / 2 ^ (w * k) % 2 ^ w)) * 2 ^ (w * (i + k)) := by
  unfold rowQ
  rw [← Nat.add_assoc, pow_up, pow_up, Nat.mod_mul, Nat.mod_mul, pow_part]
  generalize P % (2 ^ (w * k) * 2 ^ (w * i)) = p0
  generalize P / (2 ^ (w * k) * 2 ^ (w * i)) % 2 ^ w = p1
  generalize B % 2 ^ (w * k) = b0
  generalize B / 2 ^ (w * k) % 2 ^ w = b1
  generalize 2 ^ (w * k) = M
  generalize 2 ^ (w * i) = I
  rw [Nat.mul_add, Nat.add_mul, Nat.add_mul, Nat.mul_comm (M * I) p1, Nat.mul_left_comm a M b1, Nat.mul_comm M (a * b1), Nat.mul_assoc (a * b1) M I]
  omega
theorem rowQ_low {w P a B i k p : Nat} (h : p < i + k) : rowQ w P a B i (k + 1) / 2 ^ (w * p) % 2 ^ w = rowQ w P a B i k / 2 ^ (w * p) % 2 ^ w := by
  rw [rowQ_succ]
  generalize P / 2 ^ (w * (i + k)) % 2 ^ w + a * (B / 2 ^ (w * k) % 2 ^ w) = y
  obtain ⟨d, hd⟩ : ∃ d, i + k = p + (d + 1) := ⟨i + k - p - 1, by omega⟩
  rw [hd, show w * (p + (d + 1)) = w * p + (w + w * d) by rw [Nat.mul_add, Nat.mul_add]; omega, Nat.pow_add, Nat.pow_add, Nat.mul_left_comm y, Nat.add_mul_div_left _ _ (Nat.two_pow_pos _), Nat.mul_left_comm y, Nat.add_mul_mod_self_left]
theorem rowQ_top (w P a B i k : Nat) : rowQ w P a B i (k + 1) / 2 ^ (w * (i + k)) = rowQ w P a B i k / 2 ^ (w * (i + k)) + (P / 2 ^ (w * (i + k)) % 2 ^ w + a * (B / 2 ^ (w * k) % 2 ^ w)) := by
  rw [rowQ_succ, Nat.add_mul_div_right _ _ (Nat.two_pow_pos _)]
theorem rowQ_lt {w P a B i k : Nat} (ha : a < 2 ^ w) : rowQ w P a B i k / 2 ^ (w * (i + k)) < 2 ^ w := by
  rw [Nat.div_lt_iff_lt_mul (Nat.two_pow_pos _)]
  unfold rowQ
  have h1 : P % 2 ^ (w * (i + k)) < 2 ^ (w * (i + k)) := Nat.mod_lt _ (Nat.two_pow_pos _)
  have h2 : B % 2 ^ (w * k) ≤ 2 ^ (w * k) := Nat.le_of_lt (Nat.mod_lt _ (Nat.two_pow_pos _))
  have h3 : a * (B % 2 ^ (w * k)) * 2 ^ (w * i) ≤ a * 2 ^ (w * (i + k)) := by
    rw [pow_part, ← Nat.mul_assoc]
    exact Nat.mul_le_mul_right _ (Nat.mul_le_mul_left _ h2)
  obtain ⟨d, hd⟩ : ∃ d, 2 ^ w = a + 1 + d := ⟨2 ^ w - a - 1, by omega⟩
  rw [hd, Nat.add_mul, Nat.add_mul, Nat.one_mul]
  generalize d * 2 ^ (w * (i + k)) = z
  omega

/-! ### by limbs of 64 bits, cut at four -/
def wT (P a B i k : Nat) : Nat → BitVec 64 := fun p => if p < i + k then limb (rowQ 64 P a B i k) p else limb P p
def wC (P a B i k : Nat) : BitVec 64 := BitVec.ofNat 64 (rowQ 64 P a B i k / 2 ^ (64 * (i + k)))
theorem wT_zero (P a B i : Nat) : wT P a B i 0 = limb P := by
  funext p
  unfold wT
  split
  · rename_i h
    rw [rowQ_zero, limb_mod P i p (by omega)]
  · rfl
theorem wC_zero (P a B i : Nat) : wC P a B i 0 = 0#64 := by
  unfold wC
  rw [rowQ_zero, Nat.add_zero, Nat.div_eq_of_lt (Nat.mod_lt _ (Nat.two_pow_pos _))]
theorem wT_at (P a B i k : Nat) : wT P a B i k (i + k) = limb P (i + k) := if_neg (Nat.lt_irrefl _)
theorem w_mac (P A B i k : Nat) : (macHi (limb A i) (limb B k) (wC P (A / 2 ^ (64 * i) % 2 ^ 64) B i k) (limb P (i + k))).toNat * 18446744073709551616 + (macLo (limb A i) (limb B k) (wC P (A / 2 ^ (64 * i) % 2 ^ 64) B i k) (limb P (i + k))).toNat = rowQ 64 P (A / 2 ^ (64 * i) % 2 ^ 64) B i (k + 1) / 2 ^ (64 * (i + k)) := by
  have ha : A / 2 ^ (64 * i) % 2 ^ 64 < 2 ^ 64 := Nat.mod_lt _ (by decide)
  rw [mac_spec, rowQ_top, limb_toNat, limb_toNat, limb_toNat]
  have hc : (wC P (A / 2 ^ (64 * i) % 2 ^ 64) B i k).toNat = rowQ 64 P (A / 2 ^ (64 * i) % 2 ^ 64) B i k / 2 ^ (64 * (i + k)) := by
    unfold wC
    rw [BitVec.toNat_ofNat, Nat.mod_eq_of_lt (rowQ_lt ha)]
  rw [hc]
  omega
theorem wT_step (P A B i k : Nat) : upd (wT P (A / 2 ^ (64 * i) % 2 ^ 64) B i k) (i + k) (macLo (limb A i) (limb B k) (wC P (A / 2 ^ (64 * i) % 2 ^ 64) B i k) (limb P (i + k))) = wT P (A / 2 ^ (64 * i) % 2 ^ 64) B i (k + 1) := by
  funext p
  have hm := w_mac P A B i k
  by_cases h : p = i + k
  · subst h
    rw [upd_self]
    unfold wT
    rw [if_pos (by omega)]
    apply BitVec.eq_of_toNat_eq
    rw [limb_toNat, ← hm]
    have := (macLo (limb A i) (limb B k) (wC P (A / 2 ^ (64 * i) % 2 ^ 64) B i k) (limb P (i + k))).isLt
    omega
  · rw [upd_ne _ _ h]
    unfold wT
    by_cases h2 : p < i + k
    · rw [if_pos h2, if_pos (by omega)]
      apply BitVec.eq_of_toNat_eq
      rw [limb_toNat, limb_toNat, rowQ_low h2]
    · rw [if_neg h2, if_neg (by omega)]
theorem wC_step (P A B i k : Nat) : macHi (limb A i) (limb B k) (wC P (A / 2 ^ (64 * i) % 2 ^ 64) B i k) (limb P (i + k)) = wC P (A / 2 ^ (64 * i) % 2 ^ 64) B i (k + 1) := by
  have hm := w_mac P A B i k
  apply BitVec.eq_of_toNat_eq
  have ha : A / 2 ^ (64 * i) % 2 ^ 64 < 2 ^ 64 := Nat.mod_lt _ (by decide)
  have hl := rowQ_lt (P := P) (B := B) (i := i) (k := k + 1) ha
  unfold wC
  rw [BitVec.toNat_ofNat, Nat.mod_eq_of_lt hl, ← Nat.add_assoc, pow_up, ← Nat.div_div_eq_div_mul]
  unfold wC at hm
  rw [← hm]
  have := (macLo (limb A i) (limb B k) (BitVec.ofNat 64 (rowQ 64 P (A / 2 ^ (64 * i) % 2 ^ 64) B i k / 2 ^ (64 * (i + k)))) (limb P (i + k))).isLt
  omega
def wP (A B i : Nat) : Nat := (A % 2 ^ (64 * i)) * B % 2 ^ (64 * 4)
theorem wP_zero (A B : Nat) : wP A B 0 = 0 := by unfold wP; simp [Nat.mod_one]
theorem wP_next (A B i : Nat) (hi : i < 4) : cU 4 (wT (wP A B i) (A / 2 ^ (64 * i) % 2 ^ 64) B i (4 - i)) = cU 4 (limb (wP A B (i + 1))) := cU_congr fun p hp => by
  have e : i + (4 - i) = 4 := by omega
  unfold wT
  rw [if_pos (by omega), ← limb_mod (rowQ 64 _ _ _ _ _) 4 p hp]
  congr 1
  unfold rowQ wP
  rw [e, Nat.mod_mod, Nat.mod_add_mod]
  have h1 : A % 2 ^ (64 * (i + 1)) = A % 2 ^ (64 * i) + 2 ^ (64 * i) * (A / 2 ^ (64 * i) % 2 ^ 64) := by rw [pow_up, Nat.mod_mul]
  have h2 : 2 ^ (64 * 4) = 2 ^ (64 * i) * 2 ^ (64 * (4 - i)) := by rw [← Nat.pow_add]; congr 1; omega
  rw [h1, Nat.add_mul]
  generalize A / 2 ^ (64 * i) % 2 ^ 64 = a
  have h3 : a * (B % 2 ^ (64 * (4 - i))) * 2 ^ (64 * i) % 2 ^ (64 * 4) = 2 ^ (64 * i) * a * B % 2 ^ (64 * 4) := by
    rw [h2, Nat.mul_comm (a * _), Nat.mul_assoc (2 ^ (64 * i)), Nat.mul_mod_mul_left, Nat.mul_mod_mul_left, Nat.mul_mod, Nat.mod_mod, ← Nat.mul_mod]
  rw [← Nat.add_mod_mod, h3, Nat.add_mod_mod]
theorem wP_all {A B : Nat} (hA : A < 2 ^ (64 * 4)) : wP A B 4 = A * B % 2 ^ (64 * 4) := by unfold wP; rw [Nat.mod_eq_of_lt hA]

/-! ### by digits of 16 bits, whole -/
def dT (P a B i k : Nat) : Nat → BitVec 64 := fun p => if p < i + k then dig (rowQ 16 P a B i k) p else dig P p
def dC (P a B i k : Nat) : BitVec 64 := BitVec.ofNat 64 (rowQ 16 P a B i k / 2 ^ (16 * (i + k)))
theorem dig_mod16 (n k i : Nat) (h : i < k) : dig (n % 2 ^ (16 * k)) i = dig n i := by
  apply BitVec.eq_of_toNat_eq
  rw [dig_toNat, dig_toNat]
  obtain ⟨d, rfl⟩ : ∃ d, k = i + (d + 1) := ⟨k - i - 1, by omega⟩
  rw [show 16 * (i + (d + 1)) = 16 * i + (16 + 16 * d) by omega, Nat.pow_add, Nat.mod_mul_right_div_self, Nat.pow_add, Nat.mod_mul_right_mod]
theorem dT_zero (P a B i : Nat) : dT P a B i 0 = dig P := by
  funext p
  unfold dT
  split
  · rename_i h
    rw [rowQ_zero, dig_mod16 P i p (by omega)]
  · rfl
theorem dC_zero (P a B i : Nat) : dC P a B i 0 = 0#64 := by
  unfold dC
  rw [rowQ_zero, Nat.add_zero, Nat.div_eq_of_lt (Nat.mod_lt _ (Nat.two_pow_pos _))]
theorem dT_at (P a B i k : Nat) : dT P a B i k (i + k) = dig P (i + k) := if_neg (Nat.lt_irrefl _)
def dS (P A B i k : Nat) : BitVec 64 := dC P (A / 2 ^ (16 * i) % 2 ^ 16) B i k + dig P (i + k) + dig A i * dig B k
theorem dS_toNat (P A B i k : Nat) : (dS P A B i k).toNat = rowQ 16 P (A / 2 ^ (16 * i) % 2 ^ 16) B i (k + 1) / 2 ^ (16 * (i + k)) := by
  have ha : A / 2 ^ (16 * i) % 2 ^ 16 < 2 ^ 16 := Nat.mod_lt _ (by decide)
  have hc : (dC P (A / 2 ^ (16 * i) % 2 ^ 16) B i k).toNat = rowQ 16 P (A / 2 ^ (16 * i) % 2 ^ 16) B i k / 2 ^ (16 * (i + k)) := by
    unfold dC
    rw [BitVec.toNat_ofNat, Nat.mod_eq_of_lt (Nat.lt_trans (rowQ_lt ha) (by decide))]
  have hl := rowQ_lt (P := P) (B := B) (i := i) (k := k) ha
  unfold dS
  rw [BitVec.toNat_add, BitVec.toNat_add, BitVec.toNat_mul, hc, rowQ_top, dig_toNat, dig_toNat, dig_toNat]
  have hb : B / 2 ^ (16 * k) % 2 ^ 16 < 2 ^ 16 := Nat.mod_lt _ (by decide)
  have hp : P / 2 ^ (16 * (i + k)) % 2 ^ 16 < 2 ^ 16 := Nat.mod_lt _ (by decide)
  generalize rowQ 16 P (A / 2 ^ (16 * i) % 2 ^ 16) B i k / 2 ^ (16 * (i + k)) = c at *
  generalize A / 2 ^ (16 * i) % 2 ^ 16 = a at *
  generalize B / 2 ^ (16 * k) % 2 ^ 16 = b at *
  generalize P / 2 ^ (16 * (i + k)) % 2 ^ 16 = o at *
  have hab : a * b ≤ 65535 * 65535 := Nat.mul_le_mul (by omega) (by omega)
  generalize a * b = z at *
  omega
theorem and_16 (x : BitVec 64) : (x &&& 65535#64).toNat = x.toNat % 65536 := by
  rw [BitVec.toNat_and, show (65535#64 : BitVec 64).toNat = 2 ^ 16 - 1 from rfl, Nat.and_two_pow_sub_one_eq_mod]
theorem dT_step (P A B i k : Nat) : upd (dT P (A / 2 ^ (16 * i) % 2 ^ 16) B i k) (i + k) (dS P A B i k &&& 65535#64) = dT P (A / 2 ^ (16 * i) % 2 ^ 16) B i (k + 1) := by
  funext p
  by_cases h : p = i + k
  · subst h
    rw [upd_self]
    unfold dT
    rw [if_pos (by omega)]
    apply BitVec.eq_of_toNat_eq
    rw [and_16, dS_toNat, dig_toNat]
  · rw [upd_ne _ _ h]
    unfold dT
    by_cases h2 : p < i + k
    · rw [if_pos h2, if_pos (by omega)]
      apply BitVec.eq_of_toNat_eq
      rw [dig_toNat, dig_toNat, rowQ_low h2]
    · rw [if_neg h2, if_neg (by omega)]
theorem dC_step (P A B i k : Nat) : dS P A B i k >>> 16 = dC P (A / 2 ^ (16 * i) % 2 ^ 16) B i (k + 1) := by
  have ha : A / 2 ^ (16 * i) % 2 ^ 16 < 2 ^ 16 := Nat.mod_lt _ (by decide)
  apply BitVec.eq_of_toNat_eq
  unfold dC
  rw [BitVec.toNat_ushiftRight, dS_toNat, BitVec.toNat_ofNat, Nat.mod_eq_of_lt (Nat.lt_trans (rowQ_lt ha) (by decide)), ← Nat.add_assoc, pow_up, ← Nat.div_div_eq_div_mul, Nat.shiftRight_eq_div_pow]
def dP (A B i : Nat) : Nat := (A % 2 ^ (16 * i)) * B
theorem dP_zero (A B : Nat) : dP A B 0 = 0 := by unfold dP; simp [Nat.mod_one]
theorem dP_lt {A B i m : Nat} (hB : B < 2 ^ (16 * m)) : dP A B i < 2 ^ (16 * (i + m)) := by
  unfold dP
  have h1 : A % 2 ^ (16 * i) < 2 ^ (16 * i) := Nat.mod_lt _ (Nat.two_pow_pos _)
  rw [pow_part, Nat.mul_comm (2 ^ (16 * m))]
  exact Nat.mul_lt_mul_of_lt_of_le h1 (Nat.le_of_lt hB) (Nat.two_pow_pos _)
theorem rowQ_whole {A B i m : Nat} (hB : B < 2 ^ (16 * m)) : rowQ 16 (dP A B i) (A / 2 ^ (16 * i) % 2 ^ 16) B i m = dP A B (i + 1) := by
  unfold rowQ
  rw [Nat.mod_eq_of_lt (dP_lt hB), Nat.mod_eq_of_lt hB]
  unfold dP
  rw [pow_up, Nat.mod_mul, Nat.add_mul, Nat.mul_assoc (2 ^ (16 * i)), Nat.mul_comm (2 ^ (16 * i))]
theorem dP_next {A B i m : Nat} (hB : B < 2 ^ (16 * m)) : upd (dT (dP A B i) (A / 2 ^ (16 * i) % 2 ^ 16) B i m) (i + m) (dC (dP A B i) (A / 2 ^ (16 * i) % 2 ^ 16) B i m) = dig (dP A B (i + 1)) := by
  have hl := dP_lt (A := A) (i := i + 1) hB
  have h0 := dP_lt (A := A) (i := i) hB
  funext p
  by_cases h : p = i + m
  · subst h
    rw [upd_self]
    unfold dC
    rw [rowQ_whole hB]
    apply BitVec.eq_of_toNat_eq
    rw [dig_toNat, BitVec.toNat_ofNat]
    have : dP A B (i + 1) / 2 ^ (16 * (i + m)) < 2 ^ 16 := by
      rw [Nat.div_lt_iff_lt_mul (Nat.two_pow_pos _), ← Nat.pow_add]
      exact Nat.lt_of_lt_of_le hl (Nat.pow_le_pow_right (by decide) (by omega))
    rw [Nat.mod_eq_of_lt this, Nat.mod_eq_of_lt (Nat.lt_trans this (by decide))]
  · rw [upd_ne _ _ h]
    unfold dT
    by_cases h2 : p < i + m
    · rw [if_pos h2, rowQ_whole hB]
    · rw [if_neg h2]
      apply BitVec.eq_of_toNat_eq
      rw [dig_toNat, dig_toNat, Nat.div_eq_of_lt (Nat.lt_of_lt_of_le h0 (Nat.pow_le_pow_right (by decide) (by omega))), Nat.div_eq_of_lt (Nat.lt_of_lt_of_le hl (Nat.pow_le_pow_right (by decide) (by omega)))]
theorem dP_all {A B m : Nat} (hA : A < 2 ^ (16 * m)) : dP A B m = A * B := by unfold dP; rw [Nat.mod_eq_of_lt hA]
end Go.Sym
