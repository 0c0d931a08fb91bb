/-
  The plain law of package fe: numbers modulo 2^255 - 19 by five limbs of 51 bits. No program is in sight here.
-/
import Derived.Test.YtjnhgeoojnnfoaaSymDig
namespace Go.Sym
open Go

/-- 2^255 - 19. -/
def pP : Nat := 57896044618658097711785492504343953926634992332820282019728792003956564819949
theorem pP_eq : pP + 19 = 2 ^ 255 := by decide +kernel
theorem pP_pos : 0 < pP := by decide +kernel

/-- The number of five limbs. -/
def val (x : Nat → BitVec 64) : Nat := sumD 51 (fun i => (x i).toNat) 5
theorem val_def (x : Nat → BitVec 64) : val x = (x 0).toNat + (x 1).toNat * 2 ^ 51 + (x 2).toNat * 2 ^ 102 + (x 3).toNat * 2 ^ 153 + (x 4).toNat * 2 ^ 204 := by
  unfold val
  simp only [sumD]
  simp
/-- Limbs that fit. -/
def Ok (x : Nat → BitVec 64) : Prop := ∀ i, i < 5 → (x i).toNat ≤ 2251799813693440

theorem and_mask (x : BitVec 64) : (x &&& 2251799813685247#64).toNat = x.toNat % 2251799813685248 := by
  rw [BitVec.toNat_and]
  exact Nat.and_two_pow_sub_one_eq_mod _ 51
theorem shr51 (x : BitVec 64) : (x >>> 51).toNat = x.toNat / 2251799813685248 := by
  rw [BitVec.toNat_ushiftRight, Nat.shiftRight_eq_div_pow]

/-! ### carrying -/

def feCarry (x : Nat → BitVec 64) : Nat → BitVec 64 := fun i => if i = 0 then (x 0 &&& 2251799813685247#64) + (x 4 >>> 51) * 19#64 else (x i &&& 2251799813685247#64) + x (i - 1) >>> 51
/-- k limbs having been carried into. -/
def carTo (x : Nat → BitVec 64) (k : Nat) : Nat → BitVec 64 := fun i => if i < k then (if i = 0 then x 0 &&& 2251799813685247#64 else (x i &&& 2251799813685247#64) + x (i - 1) >>> 51) else 0
theorem carTo_zero (x : Nat → BitVec 64) : carTo x 0 = fun _ => 0 := by funext i; exact if_neg (Nat.not_lt_zero i)
theorem carTo_first (x : Nat → BitVec 64) (k : Nat) (hk : ¬ 0 < k) : upd (carTo x k) k (x k &&& 2251799813685247#64) = carTo x (k + 1) := by
  have : k = 0 := by omega
  subst this
  funext i
  unfold upd carTo
  by_cases h : i = 0
  · subst h; rw [if_pos rfl, if_pos (by omega), if_pos rfl]
  · rw [if_neg h, if_neg (by omega), if_neg (by omega)]
theorem carTo_next (x : Nat → BitVec 64) (k : Nat) (hk : 0 < k) : upd (upd (carTo x k) k (x k &&& 2251799813685247#64)) k (upd (carTo x k) k (x k &&& 2251799813685247#64) k + x (k - 1) >>> 51) = carTo x (k + 1) := by
  funext i
  have e : upd (carTo x k) k (x k &&& 2251799813685247#64) k = x k &&& 2251799813685247#64 := by unfold upd; rw [if_pos rfl]
  rw [e]
  unfold upd carTo
  by_cases h : i = k
  · subst h; rw [if_pos rfl, if_pos (by omega), if_neg (by omega)]
  · rw [if_neg h, if_neg h]
    by_cases h2 : i < k
    · rw [if_pos h2, if_pos (show i < k + 1 by omega)]
    · rw [if_neg h2, if_neg (by omega)]
theorem carTo_end (x : Nat → BitVec 64) : cU 5 (upd (carTo x 5) 0 (carTo x 5 0 + (x 4 >>> 51) * 19#64)) = cU 5 (feCarry x) := cU_congr fun i hi => by
  unfold upd carTo feCarry
  by_cases h : i = 0
  · subst h; rw [if_pos rfl, if_pos rfl, if_pos (by omega), if_pos rfl]
  · rw [if_neg h, if_neg h, if_pos hi, if_neg h]

/-- What a limb leaves, and what it carries. -/
theorem feCarry_val (x : Nat → BitVec 64) (_h4 : (x 4).toNat / 2251799813685248 * 19 + 2251799813685248 < 18446744073709551616) (hx : ∀ i, i < 5 → (x i).toNat / 2251799813685248 + 2251799813685248 < 18446744073709551616) :
    (feCarry x 0).toNat = (x 0).toNat % 2251799813685248 + (x 4).toNat / 2251799813685248 * 19 ∧ ∀ i, 0 < i → i < 5 → (feCarry x i).toNat = (x i).toNat % 2251799813685248 + (x (i - 1)).toNat / 2251799813685248 := by
  constructor
  · unfold feCarry
    rw [if_pos rfl, BitVec.toNat_add, BitVec.toNat_mul, and_mask, shr51]
    have e : (19#64).toNat = 19 := rfl
    rw [e]
    have := Nat.mod_lt (x 0).toNat (show 0 < 2251799813685248 by decide)
    omega
  · intro i h0 hi
    unfold feCarry
    rw [if_neg (by omega), BitVec.toNat_add, and_mask, shr51]
    have := Nat.mod_lt (x i).toNat (show 0 < 2251799813685248 by decide)
    have := hx (i - 1) (by omega)
    omega

theorem car_nat (a b c d e q0 q1 q2 q3 q4 p : Nat) (hp : p + 19 = 2 ^ 255) :
    (a % 2251799813685248 + q4 * 19) + (b % 2251799813685248 + q0) * 2 ^ 51 + (c % 2251799813685248 + q1) * 2 ^ 102 + (d % 2251799813685248 + q2) * 2 ^ 153 + (e % 2251799813685248 + q3) * 2 ^ 204 + p * q4 =
    (2251799813685248 * q0 + a % 2251799813685248) + (2251799813685248 * q1 + b % 2251799813685248) * 2 ^ 51 + (2251799813685248 * q2 + c % 2251799813685248) * 2 ^ 102 + (2251799813685248 * q3 + d % 2251799813685248) * 2 ^ 153 + (2251799813685248 * q4 + e % 2251799813685248) * 2 ^ 204 := by
  have h1 : p * q4 = (2 ^ 255 - 19) * q4 := by rw [← hp, Nat.add_sub_cancel]
  have h2 : (2 ^ 255 - 19) * q4 + 19 * q4 = 2 ^ 255 * q4 := by rw [← Nat.add_mul]
  rw [h1]
  generalize (2 ^ 255 - 19) * q4 = t at *
  omega
theorem feCarry_sum (x : Nat → BitVec 64) (h4 : (x 4).toNat / 2251799813685248 * 19 + 2251799813685248 < 18446744073709551616) (hx : ∀ i, i < 5 → (x i).toNat / 2251799813685248 + 2251799813685248 < 18446744073709551616) :
    val (feCarry x) + pP * ((x 4).toNat / 2251799813685248) = val x := by
  obtain ⟨h0, h1⟩ := feCarry_val x h4 hx
  have k1 := h1 1 (by omega) (by omega)
  have k2 := h1 2 (by omega) (by omega)
  have k3 := h1 3 (by omega) (by omega)
  have k4 := h1 4 (by omega) (by omega)
  simp only [Nat.reduceSub] at k1 k2 k3 k4
  rw [val_def, val_def, h0, k1, k2, k3, k4, car_nat _ _ _ _ _ _ _ _ _ _ pP pP_eq]
  rw [Nat.div_add_mod, Nat.div_add_mod, Nat.div_add_mod, Nat.div_add_mod, Nat.div_add_mod]
theorem mod_of_add {a b m q : Nat} (h : a + m * q = b) : a % m = b % m := by rw [← h, Nat.add_mul_mod_self_left]

/-! ### sums and differences -/

def feAdd (x y : Nat → BitVec 64) : Nat → BitVec 64 := feCarry fun i => x i + y i
def subP (i : Nat) : BitVec 64 := if i = 0 then 4503599627370458#64 else 4503599627370494#64
def feSub (x y : Nat → BitVec 64) : Nat → BitVec 64 := feCarry fun i => x i + subP i - y i

theorem carry_ok {x : Nat → BitVec 64} (hx : ∀ i, i < 5 → (x i).toNat < 967140656725819392) : Ok (feCarry x) ∧ val (feCarry x) % pP = val x % pP := by
  have hb : ∀ i, i < 5 → (x i).toNat / 2251799813685248 ≤ 429 := fun i hi => by have := hx i hi; omega
  have h4 : (x 4).toNat / 2251799813685248 * 19 + 2251799813685248 < 18446744073709551616 := by have := hb 4 (by omega); omega
  have h5 : ∀ i, i < 5 → (x i).toNat / 2251799813685248 + 2251799813685248 < 18446744073709551616 := fun i hi => by have := hb i hi; omega
  obtain ⟨h0, h1⟩ := feCarry_val x h4 h5
  refine ⟨fun i hi => ?_, mod_of_add (feCarry_sum x h4 h5)⟩
  by_cases hi0 : i = 0
  · subst hi0
    rw [h0]
    have := hb 4 (by omega)
    have := Nat.mod_lt (x 0).toNat (show 0 < 2251799813685248 by decide)
    omega
  · rw [h1 i (by omega) hi]
    have := hb (i - 1) (by omega)
    have := Nat.mod_lt (x i).toNat (show 0 < 2251799813685248 by decide)
    omega
theorem add_toNat {x y : Nat → BitVec 64} (hx : Ok x) (hy : Ok y) (i : Nat) (hi : i < 5) : (x i + y i).toNat = (x i).toNat + (y i).toNat := by
  have := hx i hi
  have := hy i hi
  rw [BitVec.toNat_add]; omega
theorem val_add {x y z : Nat → BitVec 64} (h : ∀ i, i < 5 → (z i).toNat = (x i).toNat + (y i).toNat) : val z = val x + val y := by
  rw [val_def, val_def, val_def, h 0 (by omega), h 1 (by omega), h 2 (by omega), h 3 (by omega), h 4 (by omega)]
  simp only [Nat.add_mul]
  omega
theorem feAdd_ok {x y : Nat → BitVec 64} (hx : Ok x) (hy : Ok y) : Ok (feAdd x y) ∧ val (feAdd x y) % pP = (val x + val y) % pP := by
  have h := carry_ok (x := fun i => x i + y i) (fun i hi => by
    rw [add_toNat hx hy i hi]
    have := hx i hi
    have := hy i hi
    omega)
  rw [val_add (x := x) (y := y) (z := fun i => x i + y i) (fun i hi => add_toNat hx hy i hi)] at h
  exact h
theorem sub_toNat {x y : Nat → BitVec 64} (hx : Ok x) (hy : Ok y) (i : Nat) (hi : i < 5) : (x i + subP i - y i).toNat + (y i).toNat = (x i).toNat + (subP i).toNat := by
  have := hx i hi
  have := hy i hi
  have hs : (subP i).toNat = if i = 0 then 4503599627370458 else 4503599627370494 := by unfold subP; split <;> rfl
  rw [BitVec.toNat_sub, BitVec.toNat_add, hs]
  split <;> omega
theorem val_subP : val subP = 2 * pP := by decide +kernel
theorem feSub_ok {x y : Nat → BitVec 64} (hx : Ok x) (hy : Ok y) : Ok (feSub x y) ∧ (val (feSub x y) + val y) % pP = val x % pP := by
  have h := carry_ok (x := fun i => x i + subP i - y i) (fun i hi => by
    have h1 := sub_toNat hx hy i hi
    have := hx i hi
    have hs : (subP i).toNat ≤ 4503599627370494 := by unfold subP; split <;> decide
    omega)
  have h2 : val (fun i => x i + subP i - y i) + val y = val x + val subP := by
    have e1 := val_add (x := fun i => x i + subP i - y i) (y := y) (z := fun i => x i + subP i) (fun i hi => by
      rw [sub_toNat hx hy i hi, BitVec.toNat_add]
      have := hx i hi
      have hs : (subP i).toNat ≤ 4503599627370494 := by unfold subP; split <;> decide
      omega)
    have e2 := val_add (x := x) (y := subP) (z := fun i => x i + subP i) (fun i hi => by
      rw [BitVec.toNat_add]
      have := hx i hi
      have hs : (subP i).toNat ≤ 4503599627370494 := by unfold subP; split <;> decide
      omega)
    rw [← e1, e2]
  refine ⟨h.1, ?_⟩
  show (val (feCarry _) + val y) % pP = _
  rw [← Nat.mod_add_mod, h.2, Nat.mod_add_mod, h2, val_subP, Nat.add_mul_mod_self_right]

/-! ### the product -/

/-- What stands in a place of 128 bits. -/
def lng (g : Nat → BitVec 64) (k : Nat) : Nat := (g (2 * k)).toNat * 18446744073709551616 + (g (2 * k + 1)).toNat
/-- A product is added in at o. -/
def addHi (g : Nat → BitVec 64) (o : Nat) (a b : BitVec 64) : BitVec 64 := g o + mulHi a b + cout (g (o + 1)) (a * b) 0#64
def addLo (g : Nat → BitVec 64) (o : Nat) (a b : BitVec 64) : BitVec 64 := g (o + 1) + a * b + 0#64
def addG (g : Nat → BitVec 64) (o : Nat) (a b : BitVec 64) : Nat → BitVec 64 := upd (upd g (o + 1) (addLo g o a b)) o (addHi g o a b)

theorem long_fin (b h hi k s l lo m : Nat) (hm : hi * b + lo = m) (d : b * k + s = l + lo) : (h + hi + k) * b + s = h * b + l + m := by
  rw [Nat.add_mul, Nat.add_mul, Nat.mul_comm k]
  omega
theorem long_nat (hi lo h l m : Nat) (hm : hi * 18446744073709551616 + lo = m) (hl : l < 18446744073709551616) (hlo : lo < 18446744073709551616) (hs : h * 18446744073709551616 + l + m < 340282366920938463463374607431768211456) :
    ((h + hi) % 18446744073709551616 + (l + lo + 0) / 18446744073709551616 % 18446744073709551616) % 18446744073709551616 * 18446744073709551616 + ((l + lo) % 18446744073709551616 + 0) % 18446744073709551616 = h * 18446744073709551616 + l + m := by
  simp only [Nat.add_zero, Nat.mod_mod]
  have d := Nat.div_add_mod (l + lo) 18446744073709551616
  have b1 : (l + lo) / 18446744073709551616 ≤ 1 := by omega
  generalize (l + lo) / 18446744073709551616 = k at d b1 ⊢
  generalize (l + lo) % 18446744073709551616 = s at d ⊢
  rw [Nat.mod_eq_of_lt (a := k) (by omega), Nat.mod_eq_of_lt (a := h + hi) (by omega), Nat.mod_eq_of_lt (a := h + hi + k) (by omega)]
  exact long_fin _ _ _ _ _ _ _ _ hm d
theorem addG_lng (g : Nat → BitVec 64) (k : Nat) (a b : BitVec 64) (hs : lng g k + a.toNat * b.toNat < 340282366920938463463374607431768211456) : lng (addG g (2 * k) a b) k = lng g k + a.toNat * b.toNat := by
  have key := long_nat _ _ (g (2 * k)).toNat (g (2 * k + 1)).toNat _ (mul_split a b) (g (2 * k + 1)).isLt (a * b).isLt hs
  have add0 : ∀ u v : BitVec 64, (u + v).toNat = (u.toNat + v.toNat) % 18446744073709551616 := fun u v => BitVec.toNat_add u v
  have of0 : ∀ q : Nat, (BitVec.ofNat 64 q).toNat = q % 18446744073709551616 := fun q => BitVec.toNat_ofNat q 64
  have e1 : addG g (2 * k) a b (2 * k) = addHi g (2 * k) a b := by unfold addG upd; rw [if_pos rfl]
  have e2 : addG g (2 * k) a b (2 * k + 1) = addLo g (2 * k) a b := by unfold addG upd; rw [if_neg (by omega), if_pos rfl]
  unfold lng
  rw [e1, e2]
  unfold addHi addLo cout
  simp only [add0, of0]
  exact key
theorem addG_other (g : Nat → BitVec 64) (k j : Nat) (a b : BitVec 64) (h : j ≠ k) : lng (addG g (2 * k) a b) j = lng g j := by
  unfold lng
  have e : ∀ i, i ≠ 2 * k → i ≠ 2 * k + 1 → addG g (2 * k) a b i = g i := fun i h1 h2 => by unfold addG upd; rw [if_neg h1, if_neg h2]
  rw [e _ (by omega) (by omega), e _ (by omega) (by omega)]

/-- The number of five places of 128 bits. -/
def lsum (g : Nat → BitVec 64) : Nat := lng g 0 + lng g 1 * 2 ^ 51 + lng g 2 * 2 ^ 102 + lng g 3 * 2 ^ 153 + lng g 4 * 2 ^ 204
theorem lsum_add (g : Nat → BitVec 64) (k : Nat) (hk : k < 5) (a b : BitVec 64) (hs : lng g k + a.toNat * b.toNat < 340282366920938463463374607431768211456) : lsum (addG g (2 * k) a b) = lsum g + a.toNat * b.toNat * 2 ^ (51 * k) := by
  have h := addG_lng g k a b hs
  have ho := fun j hj => addG_other g k j a b hj
  unfold lsum
  generalize a.toNat * b.toNat = m at *
  have : k = 0 ∨ k = 1 ∨ k = 2 ∨ k = 3 ∨ k = 4 := by omega
  rcases this with rfl | rfl | rfl | rfl | rfl
  · rw [h, ho 1 (by omega), ho 2 (by omega), ho 3 (by omega), ho 4 (by omega)]
    simp only [Nat.mul_zero, Nat.pow_zero, Nat.mul_one]; omega
  · rw [h, ho 0 (by omega), ho 2 (by omega), ho 3 (by omega), ho 4 (by omega)]
    simp only [Nat.reduceMul, Nat.add_mul]; omega
  · rw [h, ho 0 (by omega), ho 1 (by omega), ho 3 (by omega), ho 4 (by omega)]
    simp only [Nat.reduceMul, Nat.add_mul]; omega
  · rw [h, ho 0 (by omega), ho 1 (by omega), ho 2 (by omega), ho 4 (by omega)]
    simp only [Nat.reduceMul, Nat.add_mul]; omega
  · rw [h, ho 0 (by omega), ho 1 (by omega), ho 2 (by omega), ho 3 (by omega)]
    simp only [Nat.reduceMul, Nat.add_mul]; omega

/-- How many products a place has taken, i rows having been done (a folded one counts nineteen). -/
def wt (k : Nat) : Nat → Nat
  | 0 => 0
  | i + 1 => wt k i + (if i ≤ k then 1 else 19)
def lim : Nat := 2251799813693440
/-- The product, i rows and j places of the next one having been taken. -/
def MulIn (x y : Nat → BitVec 64) (i j : Nat) (g : Nat → BitVec 64) : Prop :=
  (∃ q, lsum g + pP * q = sumD 51 (fun i => (x i).toNat) i * val y + (x i).toNat * 2 ^ (51 * i) * sumD 51 (fun i => (y i).toNat) j) ∧
  ∀ k, k < 5 → lng g k ≤ (wt k i + (if (k + 5 - i) % 5 < j then (if i ≤ k then 1 else 19) else 0)) * (lim * lim)

theorem wt_le (k : Nat) : ∀ i, wt k i ≤ 19 * i
  | 0 => Nat.le_refl _
  | i + 1 => by have := wt_le k i; simp only [wt]; split <;> omega
theorem lim_sq : lim * lim = 5070602400949811094134299033600 := by decide +kernel
theorem MulIn.start (x y : Nat → BitVec 64) : MulIn x y 0 0 (fun _ => 0) := by
  refine ⟨⟨0, by simp [sumD, lsum, lng]⟩, fun k _ => by simp [lng]⟩
theorem prod_le {a b : Nat} (ha : a ≤ lim) (hb : b ≤ lim) : a * b ≤ lim * lim := Nat.mul_le_mul ha hb

theorem mul_fold (A B d y Y Q P W p L q R : Nat) (hW : p + 19 = W) (h : L + p * q = A * B + d * Q * Y) (hQ : Q * P = W * R) : L + d * 19 * y * R + p * (q + d * y * R) = A * B + d * Q * (Y + y * P) := by
  have e1 : d * Q * (Y + y * P) = d * Q * Y + d * y * (Q * P) := by rw [Nat.mul_add]; congr 1; ac_rfl
  rw [e1, hQ, ← hW, Nat.add_mul, Nat.mul_add (d * y), Nat.mul_add p]
  have e2 : d * 19 * y * R = d * y * (19 * R) := by ac_rfl
  have e3 : p * (d * y * R) = d * y * (p * R) := by ac_rfl
  omega
theorem mul_plain (A B d y Y Q P p L q : Nat) (h : L + p * q = A * B + d * Q * Y) : L + d * y * (Q * P) + p * q = A * B + d * Q * (Y + y * P) := by
  have e1 : d * Q * (Y + y * P) = d * Q * Y + d * y * (Q * P) := by rw [Nat.mul_add]; congr 1; ac_rfl
  omega

theorem MulIn.step {x y : Nat → BitVec 64} {i j : Nat} {g : Nat → BitVec 64} (hx : Ok x) (hy : Ok y) (hi : i < 5) (hj : j < 5) (h : MulIn x y i j g) (hij : i + j < 5) : MulIn x y i (j + 1) (addG g (2 * (i + j)) (x i) (y j)) := by
  obtain ⟨⟨q, hq⟩, hb⟩ := h
  have hp := prod_le (hx i hi) (hy j hj)
  have hk := hb (i + j) hij
  have hw := wt_le (i + j) i
  have h0 : ¬ (i + j + 5 - i) % 5 < j := by omega
  rw [if_neg h0, Nat.add_zero] at hk
  have hs : lng g (i + j) + (x i).toNat * (y j).toNat < 340282366920938463463374607431768211456 := by
    have h1 : wt (i + j) i * (lim * lim) ≤ 95 * (lim * lim) := Nat.mul_le_mul_right _ (by omega)
    rw [lim_sq] at h1 hp hk
    omega
  refine ⟨⟨q, ?_⟩, fun k hk5 => ?_⟩
  · rw [lsum_add g (i + j) hij _ _ hs, Nat.mul_add 51 i j, Nat.pow_add]
    exact mul_plain _ _ _ _ _ _ _ _ _ _ hq
  · by_cases hkk : k = i + j
    · subst hkk
      rw [addG_lng g (i + j) _ _ hs, if_pos (by omega), if_pos (by omega), Nat.add_mul, Nat.one_mul]
      omega
    · rw [addG_other g (i + j) k _ _ hkk]
      refine Nat.le_trans (hb k hk5) (Nat.mul_le_mul_right _ ?_)
      have : (k + 5 - i) % 5 ≠ j := by omega
      by_cases h2 : (k + 5 - i) % 5 < j
      · rw [if_pos h2, if_pos (show (k + 5 - i) % 5 < j + 1 by omega)]; omega
      · rw [if_neg h2, if_neg (show ¬ (k + 5 - i) % 5 < j + 1 by omega)]; omega
theorem MulIn.stepF {x y : Nat → BitVec 64} {i j : Nat} {g : Nat → BitVec 64} (hx : Ok x) (hy : Ok y) (hi : i < 5) (hj : j < 5) (h : MulIn x y i j g) (hij : ¬ i + j < 5) : MulIn x y i (j + 1) (addG g (2 * (i + j - 5)) (x i * 19#64) (y j)) := by
  obtain ⟨⟨q, hq⟩, hb⟩ := h
  have h19 : (x i * 19#64).toNat = (x i).toNat * 19 := by
    have h1 := hx i hi
    have e : (19#64).toNat = 19 := rfl
    rw [BitVec.toNat_mul, e]; omega
  have hp := prod_le (hx i hi) (hy j hj)
  have hp19 : (x i).toNat * 19 * (y j).toNat = 19 * ((x i).toNat * (y j).toNat) := by ac_rfl
  have hk := hb (i + j - 5) (by omega)
  have hw := wt_le (i + j - 5) i
  have h0 : ¬ (i + j - 5 + 5 - i) % 5 < j := by omega
  rw [if_neg h0, Nat.add_zero] at hk
  have hs : lng g (i + j - 5) + (x i * 19#64).toNat * (y j).toNat < 340282366920938463463374607431768211456 := by
    have h1 : wt (i + j - 5) i * (lim * lim) ≤ 95 * (lim * lim) := Nat.mul_le_mul_right _ (by omega)
    rw [h19, hp19]
    rw [lim_sq] at h1 hp hk
    omega
  refine ⟨⟨q + (x i).toNat * (y j).toNat * 2 ^ (51 * (i + j - 5)), ?_⟩, fun k hk5 => ?_⟩
  · rw [lsum_add g (i + j - 5) (by omega) _ _ hs, h19]
    refine mul_fold _ _ _ _ _ _ _ _ _ _ _ _ pP_eq hq ?_
    rw [← Nat.pow_add, ← Nat.pow_add]
    congr 1
    omega
  · by_cases hkk : k = i + j - 5
    · subst hkk
      rw [addG_lng g (i + j - 5) _ _ hs, h19, hp19, if_pos (by omega), if_neg (by omega), Nat.add_mul]
      omega
    · rw [addG_other g (i + j - 5) k _ _ hkk]
      refine Nat.le_trans (hb k hk5) (Nat.mul_le_mul_right _ ?_)
      have : (k + 5 - i) % 5 ≠ j := by omega
      by_cases h2 : (k + 5 - i) % 5 < j
      · rw [if_pos h2, if_pos (show (k + 5 - i) % 5 < j + 1 by omega)]; omega
      · rw [if_neg h2, if_neg (show ¬ (k + 5 - i) % 5 < j + 1 by omega)]; omega
theorem sumD5 (x : Nat → BitVec 64) : sumD 51 (fun i => (x i).toNat) 5 = val x := rfl
theorem sumD_succ' (w : Nat) (f : Nat → Nat) (k : Nat) : sumD w f (k + 1) = sumD w f k + f k * 2 ^ (w * k) := rfl
theorem sumD_zero' (w : Nat) (f : Nat → Nat) : sumD w f 0 = 0 := rfl
theorem MulIn.next {x y : Nat → BitVec 64} {i : Nat} {g : Nat → BitVec 64} (_hi : i < 5) (h : MulIn x y i 5 g) : MulIn x y (i + 1) 0 g := by
  obtain ⟨⟨q, hq⟩, hb⟩ := h
  refine ⟨⟨q, ?_⟩, fun k hk5 => ?_⟩
  · rw [hq, sumD5, sumD_succ', sumD_zero', Nat.add_mul, Nat.mul_zero, Nat.add_zero]
  · have := hb k hk5
    rw [if_pos (by omega)] at this
    rw [if_neg (by omega)]
    exact this

/-- What a place of 128 bits leaves, and what it carries. -/
def lowOf (g : Nat → BitVec 64) (k : Nat) : BitVec 64 := g (2 * k + 1) &&& 2251799813685247#64
def carOf (g : Nat → BitVec 64) (k : Nat) : BitVec 64 := g (2 * k) <<< 13 ||| g (2 * k + 1) >>> 51
theorem lowOf_toNat (g : Nat → BitVec 64) (k : Nat) : (lowOf g k).toNat = lng g k % 2251799813685248 := by
  unfold lowOf lng
  rw [and_mask]
  omega
theorem car_or (h l : Nat) (hl : l < 18446744073709551616) (hs : h * 18446744073709551616 + l < 41538374868278621028243970633760768) : h * 8192 % 18446744073709551616 ||| l / 2251799813685248 = (h * 18446744073709551616 + l) / 2251799813685248 := by
  have h0 : h < 2251799813685248 := by
    rcases Nat.lt_or_ge h 2251799813685248 with h5 | h5
    · exact h5
    · have := Nat.mul_le_mul_right 18446744073709551616 h5
      omega
  have h1 : h * 8192 < 18446744073709551616 := by clear hs hl; omega
  have h2 : l / 2251799813685248 < 2 ^ 13 := by clear hs h0 h1; omega
  have h3 := Nat.shiftLeft_add_eq_or_of_lt h2 h
  rw [Nat.shiftLeft_eq] at h3
  rw [Nat.mod_eq_of_lt h1, show (8192 : Nat) = 2 ^ 13 from rfl, ← h3]
  omega
theorem carOf_toNat (g : Nat → BitVec 64) (k : Nat) (h : lng g k < 41538374868278621028243970633760768) : (carOf g k).toNat = lng g k / 2251799813685248 := by
  have add0 : (carOf g k).toNat = (g (2 * k)).toNat * 8192 % 18446744073709551616 ||| (g (2 * k + 1)).toNat / 2251799813685248 := by
    unfold carOf
    rw [BitVec.toNat_or, BitVec.toNat_shiftLeft, shr51, Nat.shiftLeft_eq]
  rw [add0]
  exact car_or _ _ (g (2 * k + 1)).isLt h

/-- The limbs, k places having been taken. -/
def outTo (g : Nat → BitVec 64) (k : Nat) : Nat → BitVec 64 := fun i => if i < k then (if i = 0 then 0 + lowOf g 0 else 0 + carOf g (i - 1) + lowOf g i) else if i = k ∧ 0 < k ∧ k < 5 then 0 + carOf g (k - 1) else 0
def outAll (g : Nat → BitVec 64) : Nat → BitVec 64 := fun i => if i = 0 then 0 + lowOf g 0 + carOf g 4 * 19#64 else 0 + carOf g (i - 1) + lowOf g i
theorem outTo_zero (g : Nat → BitVec 64) : outTo g 0 = fun _ => 0 := by
  funext i
  unfold outTo
  rw [if_neg (by omega), if_neg (by omega)]
theorem outTo_self (g : Nat → BitVec 64) (k : Nat) (hk : k < 5) : outTo g k k = if k = 0 then 0 else 0 + carOf g (k - 1) := by
  unfold outTo
  rw [if_neg (Nat.lt_irrefl k)]
  by_cases h : k = 0
  · subst h; rw [if_neg (by omega), if_pos rfl]
  · rw [if_pos (by omega), if_neg h]
theorem outTo_high (g : Nat → BitVec 64) (k i : Nat) (h : k < i) : outTo g k i = 0 := by
  unfold outTo
  rw [if_neg (by omega), if_neg (by omega)]
theorem outTo_step (g : Nat → BitVec 64) (k : Nat) (hk : k + 1 < 5) : upd (upd (outTo g k) k (outTo g k k + lowOf g k)) (k + 1) (upd (outTo g k) k (outTo g k k + lowOf g k) (k + 1) + carOf g k) = outTo g (k + 1) := by
  funext i
  have e : upd (outTo g k) k (outTo g k k + lowOf g k) (k + 1) = 0 := by
    unfold upd
    rw [if_neg (by omega), outTo_high g k (k + 1) (by omega)]
  rw [e, outTo_self g k (by omega)]
  by_cases h1 : i = k + 1
  · subst h1
    unfold upd
    rw [if_pos rfl]
    rw [outTo_self g (k + 1) hk, if_neg (by omega)]
    rfl
  · unfold upd
    rw [if_neg h1]
    by_cases h2 : i = k
    · subst h2
      rw [if_pos rfl]
      unfold outTo
      rw [if_pos (show i < i + 1 by omega)]
      by_cases h3 : i = 0
      · subst h3; rw [if_pos rfl, if_pos rfl]
      · rw [if_neg h3, if_neg h3]
    · rw [if_neg h2]
      unfold outTo
      by_cases h3 : i < k
      · rw [if_pos h3, if_pos (show i < k + 1 by omega)]
      · rw [if_neg h3, if_neg (by omega), if_neg (by omega), if_neg (by omega)]
theorem outTo_last (g : Nat → BitVec 64) : cU 5 (upd (upd (outTo g 4) 4 (outTo g 4 4 + lowOf g 4)) 0 (upd (outTo g 4) 4 (outTo g 4 4 + lowOf g 4) 0 + carOf g 4 * 19#64)) = cU 5 (outAll g) := cU_congr fun i hi => by
  have e : upd (outTo g 4) 4 (outTo g 4 4 + lowOf g 4) 0 = 0 + lowOf g 0 := by
    unfold upd outTo
    rw [if_neg (by omega), if_pos (by omega), if_pos rfl]
  rw [e, outTo_self g 4 (by omega)]
  unfold upd outAll
  by_cases h : i = 0
  · subst h; rw [if_pos rfl, if_pos rfl]
  · rw [if_neg h, if_neg h]
    by_cases h4 : i = 4
    · subst h4; rw [if_pos rfl, if_neg (by omega)]
    · rw [if_neg h4]
      unfold outTo
      rw [if_pos (by omega), if_neg h]

/-- What comes of the places. -/
theorem outAll_ok {g : Nat → BitVec 64} (hb : ∀ k, k < 5 → lng g k ≤ wt k 5 * (lim * lim)) : Ok (feCarry (outAll g)) ∧ val (feCarry (outAll g)) % pP = lsum g % pP := by
  have b0 : lng g 0 ≤ 77 * (lim * lim) := hb 0 (by omega)
  have b1 : lng g 1 ≤ 59 * (lim * lim) := hb 1 (by omega)
  have b2 : lng g 2 ≤ 41 * (lim * lim) := hb 2 (by omega)
  have b3 : lng g 3 ≤ 23 * (lim * lim) := hb 3 (by omega)
  have b4 : lng g 4 ≤ 5 * (lim * lim) := hb 4 (by omega)
  rw [lim_sq] at b0 b1 b2 b3 b4
  have c0 := carOf_toNat g 0 (by omega)
  have c1 := carOf_toNat g 1 (by omega)
  have c2 := carOf_toNat g 2 (by omega)
  have c3 := carOf_toNat g 3 (by omega)
  have c4 := carOf_toNat g 4 (by omega)
  have z0 : ∀ u : BitVec 64, (0 + u).toNat = u.toNat := fun u => by rw [show (0 : BitVec 64) + u = u from BitVec.zero_add u]
  have add0 : ∀ u v : BitVec 64, (u + v).toNat = (u.toNat + v.toNat) % 18446744073709551616 := fun u v => BitVec.toNat_add u v
  have mul0 : ∀ u v : BitVec 64, (u * v).toNat = (u.toNat * v.toNat) % 18446744073709551616 := fun u v => BitVec.toNat_mul u v
  have e19 : (19#64).toNat = 19 := rfl
  have o0 : (outAll g 0).toNat = lng g 0 % 2251799813685248 + lng g 4 / 2251799813685248 * 19 := by
    unfold outAll
    rw [if_pos rfl, add0, z0, mul0, lowOf_toNat, c4, e19]
    omega
  have oi : ∀ i, 0 < i → i < 5 → (carOf g (i - 1)).toNat = lng g (i - 1) / 2251799813685248 → lng g (i - 1) ≤ 77 * 5070602400949811094134299033600 → (outAll g i).toNat = lng g i % 2251799813685248 + lng g (i - 1) / 2251799813685248 := by
    intro i h0 _ hc hl
    unfold outAll
    rw [if_neg (by omega), add0, z0, lowOf_toNat, hc]
    omega
  have o1 := oi 1 (by omega) (by omega) c0 (by simp only [Nat.reduceSub]; omega)
  have o2 := oi 2 (by omega) (by omega) c1 (by simp only [Nat.reduceSub]; omega)
  have o3 := oi 3 (by omega) (by omega) c2 (by simp only [Nat.reduceSub]; omega)
  have o4 := oi 4 (by omega) (by omega) c3 (by simp only [Nat.reduceSub]; omega)
  simp only [Nat.reduceSub] at o1 o2 o3 o4
  have hsz : ∀ i, i < 5 → (outAll g i).toNat < 967140656725819392 := by
    intro i hi
    have : i = 0 ∨ i = 1 ∨ i = 2 ∨ i = 3 ∨ i = 4 := by omega
    rcases this with rfl | rfl | rfl | rfl | rfl
    · rw [o0]; omega
    · rw [o1]; omega
    · rw [o2]; omega
    · rw [o3]; omega
    · rw [o4]; omega
  obtain ⟨h1, h2⟩ := carry_ok hsz
  refine ⟨h1, h2.trans (mod_of_add (q := lng g 4 / 2251799813685248) ?_)⟩
  rw [val_def, o0, o1, o2, o3, o4, car_nat _ _ _ _ _ _ _ _ _ _ pP pP_eq]
  rw [Nat.div_add_mod, Nat.div_add_mod, Nat.div_add_mod, Nat.div_add_mod, Nat.div_add_mod]
  rfl
theorem feMul_ok {x y g : Nat → BitVec 64} (h : MulIn x y 5 0 g) : Ok (feCarry (outAll g)) ∧ val (feCarry (outAll g)) % pP = (val x * val y) % pP := by
  obtain ⟨⟨q, hq⟩, hb⟩ := h
  obtain ⟨h1, h2⟩ := outAll_ok (g := g) (fun k hk => by
    have := hb k hk
    rw [if_neg (by omega)] at this
    exact this)
  refine ⟨h1, h2.trans (mod_of_add (q := q) ?_)⟩
  rw [hq, sumD5, sumD_zero', Nat.mul_zero, Nat.add_zero]
end Go.Sym
