/-
  Numbers by digits: bytes, limbs of 64 bits, digits of 16 bits. Plain arithmetic; no program is in sight here.
-/
import Derived.Test.YtedlgmjpifokdaaSymInt
namespace Go.Sym
open Go

/-- The number of k digits of w bits, the lowest first. -/
def sumD (w : Nat) (f : Nat → Nat) : Nat → Nat
  | 0 => 0
  | k + 1 => sumD w f k + f k * 2 ^ (w * k)

theorem sumD_congr {w : Nat} {f g : Nat → Nat} : ∀ {k : Nat}, (∀ i, i < k → f i = g i) → sumD w f k = sumD w g k
  | 0, _ => rfl
  | k + 1, h => by simp only [sumD]; rw [sumD_congr (k := k) (fun i hi => h i (by omega)), h k (by omega)]

theorem sumD_lt {w : Nat} {f : Nat → Nat} : ∀ {k : Nat}, (∀ i, i < k → f i < 2 ^ w) → sumD w f k < 2 ^ (w * k)
  | 0, _ => by simp [sumD]
  | k + 1, h => by
    have ih := sumD_lt (w := w) (f := f) (k := k) (fun i hi => h i (by omega))
    have hk := h k (by omega)
    simp only [sumD]
    rw [Nat.mul_succ, Nat.pow_add]
    have h1 : (f k + 1) * 2 ^ (w * k) ≤ 2 ^ w * 2 ^ (w * k) := Nat.mul_le_mul_right _ hk
    rw [Nat.add_mul, Nat.one_mul, Nat.mul_comm (2 ^ w)] at h1
    omega

theorem sumD_get {w : Nat} {f : Nat → Nat} : ∀ {k i : Nat}, (∀ i, i < k → f i < 2 ^ w) → i < k → sumD w f k / 2 ^ (w * i) % 2 ^ w = f i
  | 0, i, _, hi => by omega
  | k + 1, i, h, hi => by
    simp only [sumD]
    have hp : 0 < 2 ^ (w * i) := Nat.two_pow_pos _
    by_cases hik : i = k
    · subst hik
      have hl := sumD_lt (w := w) (f := f) (k := i) (fun j hj => h j (by omega))
      rw [Nat.add_mul_div_right _ _ hp, Nat.div_eq_of_lt hl, Nat.zero_add, Nat.mod_eq_of_lt (h i hi)]
    · have ih := sumD_get (w := w) (f := f) (k := k) (i := i) (fun j hj => h j (by omega)) (by omega)
      have e : 2 ^ (w * k) = 2 ^ (w * i) * (2 ^ w * 2 ^ (w * (k - i - 1))) := by
        rw [← Nat.pow_add, ← Nat.pow_add]
        congr 1
        have : k = i + 1 + (k - i - 1) := by omega
        generalize k - i - 1 = q at this ⊢
        subst this
        rw [Nat.mul_add, Nat.mul_add]; omega
      rw [e, ← Nat.mul_assoc, Nat.mul_comm (f k), Nat.mul_assoc, Nat.add_mul_div_left _ _ hp, Nat.mul_comm (f k), Nat.mul_assoc, Nat.add_mul_mod_self_left]
      exact ih

theorem sumD_of {w n : Nat} : ∀ {k : Nat}, sumD w (fun i => n / 2 ^ (w * i) % 2 ^ w) k = n % 2 ^ (w * k)
  | 0 => by simp [sumD, Nat.mod_one]
  | k + 1 => by
    simp only [sumD]
    rw [sumD_of (k := k), Nat.mul_succ, Nat.pow_add, Nat.mod_mul, Nat.mul_comm (2 ^ (w * k)) (_ % _)]

/-- Digits are told by their number. -/
theorem sumD_inj {w k : Nat} {f g : Nat → Nat} (hf : ∀ i, i < k → f i < 2 ^ w) (hg : ∀ i, i < k → g i < 2 ^ w) (h : sumD w f k = sumD w g k) : ∀ i, i < k → f i = g i := by
  intro i hi
  rw [← sumD_get hf hi, ← sumD_get hg hi, h]

/-! ### bytes, limbs, digits of 16 bits -/

def byt (n : Nat) : Nat → BitVec 8 := fun i => BitVec.ofNat 8 (n / 2 ^ (8 * i))
def limb (n : Nat) : Nat → BitVec 64 := fun i => BitVec.ofNat 64 (n / 2 ^ (64 * i))
def dig (n : Nat) : Nat → BitVec 64 := fun i => BitVec.ofNat 64 (n / 2 ^ (16 * i) % 65536)
def natB (f : Nat → BitVec 8) (k : Nat) : Nat := sumD 8 (fun i => (f i).toNat) k
def natU (f : Nat → BitVec 64) (k : Nat) : Nat := sumD 64 (fun i => (f i).toNat) k

theorem natB_lt (f : Nat → BitVec 8) (k : Nat) : natB f k < 2 ^ (8 * k) := sumD_lt fun i _ => (f i).isLt
theorem natU_lt (f : Nat → BitVec 64) (k : Nat) : natU f k < 2 ^ (64 * k) := sumD_lt fun i _ => (f i).isLt
theorem natB_succ (f : Nat → BitVec 8) (k : Nat) : natB f (k + 1) = natB f k + (f k).toNat * 2 ^ (8 * k) := rfl
theorem natU_succ (f : Nat → BitVec 64) (k : Nat) : natU f (k + 1) = natU f k + (f k).toNat * 2 ^ (64 * k) := rfl
theorem natB_congr {f g : Nat → BitVec 8} {k : Nat} (h : ∀ i, i < k → f i = g i) : natB f k = natB g k := sumD_congr fun i hi => by rw [h i hi]
theorem natU_congr {f g : Nat → BitVec 64} {k : Nat} (h : ∀ i, i < k → f i = g i) : natU f k = natU g k := sumD_congr fun i hi => by rw [h i hi]
theorem byt_toNat (n i : Nat) : (byt n i).toNat = n / 2 ^ (8 * i) % 2 ^ 8 := by unfold byt; rw [BitVec.toNat_ofNat]
theorem limb_toNat (n i : Nat) : (limb n i).toNat = n / 2 ^ (64 * i) % 2 ^ 64 := by unfold limb; rw [BitVec.toNat_ofNat]
theorem dig_toNat (n i : Nat) : (dig n i).toNat = n / 2 ^ (16 * i) % 2 ^ 16 := by unfold dig; rw [BitVec.toNat_ofNat]; omega
theorem natB_byt (n k : Nat) : natB (byt n) k = n % 2 ^ (8 * k) := by
  rw [← sumD_of (w := 8) (n := n)]; exact sumD_congr fun i _ => byt_toNat n i
theorem natU_limb (n k : Nat) : natU (limb n) k = n % 2 ^ (64 * k) := by
  rw [← sumD_of (w := 64) (n := n)]; exact sumD_congr fun i _ => limb_toNat n i
theorem byt_natB (f : Nat → BitVec 8) (k i : Nat) (h : i < k) : byt (natB f k) i = f i := by
  apply BitVec.eq_of_toNat_eq
  rw [byt_toNat]
  exact sumD_get (fun i _ => (f i).isLt) h
theorem limb_natU (f : Nat → BitVec 64) (k i : Nat) (h : i < k) : limb (natU f k) i = f i := by
  apply BitVec.eq_of_toNat_eq
  rw [limb_toNat]
  exact sumD_get (fun i _ => (f i).isLt) h
theorem byt_mod (n k i : Nat) (h : i < k) : byt (n % 2 ^ (8 * k)) i = byt n i := by rw [← natB_byt, byt_natB _ _ _ h]
theorem limb_mod (n k i : Nat) (h : i < k) : limb (n % 2 ^ (64 * k)) i = limb n i := by rw [← natU_limb, limb_natU _ _ _ h]
theorem cB_byt (f : Nat → BitVec 8) (k : Nat) : cB k f = cB k (byt (natB f k)) := cB_congr fun i hi => (byt_natB f k i hi).symm
theorem cU_limb (f : Nat → BitVec 64) (k : Nat) : cU k f = cU k (limb (natU f k)) := cU_congr fun i hi => (limb_natU f k i hi).symm
theorem byt_inj {m n k : Nat} (hm : m < 2 ^ (8 * k)) (hn : n < 2 ^ (8 * k)) (h : ∀ i, i < k → byt m i = byt n i) : m = n := by
  have := natB_congr h
  rwa [natB_byt, natB_byt, Nat.mod_eq_of_lt hm, Nat.mod_eq_of_lt hn] at this

/-- A number is laid into limbs, a byte after the other. -/
theorem limb_or (n c k : Nat) (hn : n < 2 ^ (8 * k)) (hc : c < 256) (b : BitVec 64) (hb : b.toNat = c) :
    upd (limb n) (k / 8) (limb n (k / 8) ||| b <<< (k % 8 * 8)) = limb (n + c * 2 ^ (8 * k)) := by
  have e : 2 ^ (8 * k) = 2 ^ (64 * (k / 8)) * 2 ^ (k % 8 * 8) := by rw [← Nat.pow_add]; congr 1; omega
  have hp : 0 < 2 ^ (64 * (k / 8)) := Nat.two_pow_pos _
  funext j
  unfold upd
  apply BitVec.eq_of_toNat_eq
  by_cases hj : j = k / 8
  · subst hj
    rw [if_pos rfl, BitVec.toNat_or, limb_toNat, limb_toNat, BitVec.toNat_shiftLeft, hb, e, ← Nat.mul_assoc, Nat.mul_comm c, Nat.mul_assoc, Nat.add_mul_div_left _ _ hp]
    have hq : n / 2 ^ (64 * (k / 8)) < 2 ^ (k % 8 * 8) := by
      rw [Nat.div_lt_iff_lt_mul hp, Nat.mul_comm, ← e]; exact hn
    have h8 : k % 8 * 8 ≤ 56 := by omega
    have h56 : 2 ^ (k % 8 * 8) ≤ 2 ^ 56 := Nat.pow_le_pow_right (by decide) h8
    have hprod : c * 2 ^ (k % 8 * 8) < 2 ^ 64 := by
      calc c * 2 ^ (k % 8 * 8) ≤ 255 * 2 ^ 56 := Nat.mul_le_mul (by omega) h56
        _ < 2 ^ 64 := by decide
    rw [Nat.mod_eq_of_lt (a := n / 2 ^ (64 * (k / 8))) (by omega), Nat.shiftLeft_eq, Nat.mod_eq_of_lt hprod]
    have h1 : n / 2 ^ (64 * (k / 8)) ||| c * 2 ^ (k % 8 * 8) = n / 2 ^ (64 * (k / 8)) + c * 2 ^ (k % 8 * 8) := by
      rw [Nat.or_comm, ← Nat.shiftLeft_eq, ← Nat.shiftLeft_add_eq_or_of_lt hq, Nat.add_comm]
    rw [h1]
    have : n / 2 ^ (64 * (k / 8)) + c * 2 ^ (k % 8 * 8) < 2 ^ 64 := by
      have h2 : (c + 1) * 2 ^ (k % 8 * 8) ≤ 256 * 2 ^ 56 := Nat.mul_le_mul (by omega) h56
      rw [Nat.add_mul, Nat.one_mul] at h2
      have : (256 * 2 ^ 56 : Nat) = 2 ^ 64 := by decide
      omega
    exact (Nat.mod_eq_of_lt this).symm
  · rw [if_neg hj, limb_toNat, limb_toNat]
    by_cases hlt : j < k / 8
    · have e2 : 2 ^ (8 * k) = 2 ^ (64 * j) * (2 ^ 64 * 2 ^ (8 * k - 64 * j - 64)) := by
        rw [← Nat.pow_add, ← Nat.pow_add]; congr 1; omega
      rw [e2, ← Nat.mul_assoc, Nat.mul_comm c, Nat.mul_assoc, Nat.add_mul_div_left _ _ (Nat.two_pow_pos _), Nat.mul_left_comm, Nat.add_mul_mod_self_left]
    · have hge : 8 * k + 8 ≤ 64 * j := by omega
      have h3 : n + c * 2 ^ (8 * k) < 2 ^ (64 * j) := by
        have h4 : 2 ^ (8 * k + 8) ≤ 2 ^ (64 * j) := Nat.pow_le_pow_right (by decide) hge
        rw [Nat.pow_add] at h4
        have h5 : (c + 1) * 2 ^ (8 * k) ≤ 256 * 2 ^ (8 * k) := Nat.mul_le_mul_right _ (by omega)
        rw [Nat.add_mul, Nat.one_mul] at h5
        have : (2 : Nat) ^ 8 = 256 := by decide
        rw [this, Nat.mul_comm] at h4
        omega
      rw [Nat.div_eq_of_lt h3, Nat.div_eq_of_lt (by omega)]

/-- A byte of a number's limbs. -/
theorem limb_byt (n i : Nat) : (limb n (i / 8) >>> (i % 8 * 8)).setWidth 8 = byt n i := by
  apply BitVec.eq_of_toNat_eq
  rw [BitVec.toNat_setWidth, BitVec.toNat_ushiftRight, limb_toNat, byt_toNat, Nat.shiftRight_eq_div_pow]
  have e : 2 ^ (8 * i) = 2 ^ (64 * (i / 8)) * 2 ^ (i % 8 * 8) := by rw [← Nat.pow_add]; congr 1; omega
  rw [e, ← Nat.div_div_eq_div_mul]
  generalize n / 2 ^ (64 * (i / 8)) = m
  have e2 : (2 : Nat) ^ 64 = 2 ^ (i % 8 * 8) * (2 ^ 8 * 2 ^ (56 - i % 8 * 8)) := by rw [← Nat.pow_add, ← Nat.pow_add]; congr 1; omega
  rw [e2, Nat.mod_mul_right_div_self, Nat.mod_mul_right_mod]
/-- A bit of a number's limbs. -/
theorem limb_bit (n i : Nat) : (limb n (i / 64) >>> (i % 64) &&& 1#64).toNat = n / 2 ^ i % 2 := by
  rw [BitVec.toNat_and, BitVec.toNat_ushiftRight, limb_toNat, Nat.shiftRight_eq_div_pow]
  have e : 2 ^ i = 2 ^ (64 * (i / 64)) * 2 ^ (i % 64) := by rw [← Nat.pow_add]; congr 1; omega
  rw [e, ← Nat.div_div_eq_div_mul]
  generalize n / 2 ^ (64 * (i / 64)) = m
  have e2 : (2 : Nat) ^ 64 = 2 ^ (i % 64) * (2 * 2 ^ (63 - i % 64)) := by rw [← Nat.pow_succ', ← Nat.pow_add]; congr 1; omega
  rw [e2, Nat.mod_mul_right_div_self]
  have h1 : ∀ q : Nat, q &&& (1#64).toNat = q % 2 := fun q => Nat.and_two_pow_sub_one_eq_mod q 1
  rw [h1, Nat.mod_mul_right_mod]

/-! ### sums and differences, limb by limb -/

/-- What k limbs of a sum carry. -/
def carryOf (a b k : Nat) : Nat := (a % 2 ^ (64 * k) + b % 2 ^ (64 * k)) / 2 ^ (64 * k)
/-- What k limbs of a difference borrow. -/
def borrowOf (a b k : Nat) : Nat := if a % 2 ^ (64 * k) < b % 2 ^ (64 * k) then 1 else 0

theorem pow_succ64 (k : Nat) : 2 ^ (64 * (k + 1)) = 2 ^ (64 * k) * 2 ^ 64 := by rw [Nat.mul_succ, Nat.pow_add]
theorem mod_lt_pow (a k : Nat) : a % 2 ^ (64 * k) < 2 ^ (64 * k) := Nat.mod_lt _ (Nat.two_pow_pos _)
theorem carryOf_le (a b k : Nat) : carryOf a b k ≤ 1 := by
  have h1 := mod_lt_pow a k
  have h2 := mod_lt_pow b k
  have : (a % 2 ^ (64 * k) + b % 2 ^ (64 * k)) / 2 ^ (64 * k) < 2 := by rw [Nat.div_lt_iff_lt_mul (Nat.two_pow_pos _)]; omega
  unfold carryOf; omega
theorem carryOf_zero (a b : Nat) : carryOf a b 0 = 0 := by simp [carryOf, Nat.mod_one]
theorem borrowOf_zero (a b : Nat) : borrowOf a b 0 = 0 := by simp [borrowOf, Nat.mod_one]

theorem div_add_split (a b M : Nat) (hM : 0 < M) : (a + b) / M = a / M + b / M + (a % M + b % M) / M := by
  have h1 := Nat.div_add_mod a M
  have h2 := Nat.div_add_mod b M
  have h3 : a + b = M * (a / M + b / M) + (a % M + b % M) := by rw [Nat.mul_add]; omega
  rw [h3, Nat.mul_add_div hM]

/-- One limb of a sum, and what it carries. -/
theorem sum_limb (a b k : Nat) (c : BitVec 64) (hc : c.toNat = carryOf a b k) :
    limb a k + limb b k + c = limb (a + b) k ∧ (cout (limb a k) (limb b k) c).toNat = carryOf a b (k + 1) := by
  have hM : 0 < 2 ^ (64 * k) := Nat.two_pow_pos _
  constructor
  · apply BitVec.eq_of_toNat_eq
    rw [BitVec.toNat_add, BitVec.toNat_add, limb_toNat, limb_toNat, limb_toNat, hc, div_add_split a b _ hM]
    unfold carryOf
    omega
  · unfold cout
    have hle := carryOf_le a b k
    have e : carryOf a b (k + 1) = (a / 2 ^ (64 * k) % 2 ^ 64 + b / 2 ^ (64 * k) % 2 ^ 64 + carryOf a b k) / 2 ^ 64 := by
      unfold carryOf
      rw [pow_succ64, Nat.mod_mul, Nat.mod_mul, ← Nat.div_div_eq_div_mul]
      congr 1
      have h3 : a % 2 ^ (64 * k) + 2 ^ (64 * k) * (a / 2 ^ (64 * k) % 2 ^ 64) + (b % 2 ^ (64 * k) + 2 ^ (64 * k) * (b / 2 ^ (64 * k) % 2 ^ 64)) =
          2 ^ (64 * k) * (a / 2 ^ (64 * k) % 2 ^ 64 + b / 2 ^ (64 * k) % 2 ^ 64) + (a % 2 ^ (64 * k) + b % 2 ^ (64 * k)) := by rw [Nat.mul_add]; omega
      rw [h3, Nat.mul_add_div hM]
    rw [BitVec.toNat_ofNat, limb_toNat, limb_toNat, hc, e]
    omega

/-- One limb of a difference, and what it borrows. -/
theorem diff_limb (a b n k : Nat) (hk : k < n) (hb : b < 2 ^ (64 * n)) (c : BitVec 64) (hc : c.toNat = borrowOf a b k) :
    limb a k - limb b k - c = limb (a + (2 ^ (64 * n) - b)) k ∧ (bout (limb a k) (limb b k) c).toNat = borrowOf a b (k + 1) := by
  have hM : 0 < 2 ^ (64 * k) := Nat.two_pow_pos _
  have e0 : 2 ^ (64 * n) = 2 ^ (64 * k) * (2 ^ 64 * 2 ^ (64 * (n - k - 1))) := by
    rw [← Nat.pow_add, ← Nat.pow_add]; congr 1; omega
  constructor
  · apply BitVec.eq_of_toNat_eq
    rw [BitVec.toNat_sub, BitVec.toNat_sub, limb_toNat, limb_toNat, limb_toNat, hc]
    -- the limb of the difference
    have h1 := Nat.div_add_mod a (2 ^ (64 * k))
    have h2 := Nat.div_add_mod b (2 ^ (64 * k))
    have ha := mod_lt_pow a k
    have hb' := mod_lt_pow b k
    have hqb : b / 2 ^ (64 * k) < 2 ^ 64 * 2 ^ (64 * (n - k - 1)) := by rw [Nat.div_lt_iff_lt_mul hM, Nat.mul_comm, ← e0]; exact hb
    have key : (a + (2 ^ (64 * n) - b)) / 2 ^ (64 * k) = a / 2 ^ (64 * k) + (2 ^ 64 * 2 ^ (64 * (n - k - 1)) - b / 2 ^ (64 * k)) - borrowOf a b k := by
      unfold borrowOf
      rw [e0]
      generalize 2 ^ 64 * 2 ^ (64 * (n - k - 1)) = T at hqb ⊢
      generalize a / 2 ^ (64 * k) = qa at h1 ⊢
      generalize a % 2 ^ (64 * k) = ra at h1 ha ⊢
      generalize b / 2 ^ (64 * k) = qb at h2 hqb ⊢
      generalize b % 2 ^ (64 * k) = rb at h2 hb' ⊢
      generalize hMM : 2 ^ (64 * k) = M at *
      obtain ⟨d, rfl⟩ : ∃ d, T = qb + 1 + d := ⟨T - qb - 1, by omega⟩
      have h5 : M * (qb + 1 + d) - b = M * d + (M - rb) := by
        rw [← h2, Nat.mul_add, Nat.mul_add]; omega
      have h6 : a + (M * (qb + 1 + d) - b) = M * (qa + d) + (ra + (M - rb)) := by rw [h5, ← h1, Nat.mul_add]; omega
      rw [h6, Nat.mul_add_div hM]
      split
      · rename_i hlt
        rw [Nat.div_eq_of_lt (by omega)]; omega
      · rename_i hlt
        have : (ra + (M - rb)) / M = 1 := by
          rw [Nat.div_eq_iff hM]; omega
        rw [this]; omega
    rw [key]
    have hle : borrowOf a b k ≤ 1 := by unfold borrowOf; split <;> omega
    have hT2 : (2 ^ 64 * 2 ^ (64 * (n - k - 1))) % 2 ^ 64 = 0 := Nat.mul_mod_right _ _
    clear key e0 h1 h2 ha hb' hb hc
    generalize borrowOf a b k = c' at hle ⊢
    generalize 2 ^ 64 * 2 ^ (64 * (n - k - 1)) = T at hqb hT2 ⊢
    generalize a / 2 ^ (64 * k) = qa
    generalize b / 2 ^ (64 * k) = qb at hqb ⊢
    omega
  · unfold bout
    have e : borrowOf a b (k + 1) = if a / 2 ^ (64 * k) % 2 ^ 64 < b / 2 ^ (64 * k) % 2 ^ 64 + borrowOf a b k then 1 else 0 := by
      unfold borrowOf
      rw [pow_succ64, Nat.mod_mul, Nat.mod_mul]
      have ha := mod_lt_pow a k
      have hb' := mod_lt_pow b k
      generalize a / 2 ^ (64 * k) % 2 ^ 64 = qa
      generalize a % 2 ^ (64 * k) = ra at ha ⊢
      generalize b / 2 ^ (64 * k) % 2 ^ 64 = qb
      generalize b % 2 ^ (64 * k) = rb at hb' ⊢
      generalize 2 ^ (64 * k) = M at *
      have h7 : qa < qb → M * qa + M ≤ M * qb := fun h => by
        have := Nat.mul_le_mul_left M (show qa + 1 ≤ qb from h)
        rwa [Nat.mul_add, Nat.mul_one] at this
      have h8 : qb < qa → M * qb + M ≤ M * qa := fun h => by
        have := Nat.mul_le_mul_left M (show qb + 1 ≤ qa from h)
        rwa [Nat.mul_add, Nat.mul_one] at this
      have h9 : qa = qb → M * qa = M * qb := fun h => by rw [h]
      rcases Nat.lt_trichotomy qa qb with h | h | h
      · have := h7 h
        rw [if_pos (by omega), if_pos (by omega)]
      · have := h9 h
        by_cases h10 : ra < rb
        · rw [if_pos (by omega), if_pos (by rw [if_pos h10]; omega)]
        · rw [if_neg (by omega), if_neg (by rw [if_neg h10]; omega)]
      · have := h8 h
        rw [if_neg (by omega), if_neg (by split <;> omega)]
    rw [e, limb_toNat, limb_toNat, hc]
    split <;> rfl
end Go.Sym
