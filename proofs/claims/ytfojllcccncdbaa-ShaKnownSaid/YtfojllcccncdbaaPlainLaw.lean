/-
  What the laws of chapter 7 say of the step of SHA-512's functions. No program is in sight here.
-/
import Derived.Test.YtfojllcccncdbaaPlain
namespace Go.Sym
open Go

theorem bit_one (x : BitVec 64) (k : Nat) : (x >>> k &&& 1#64) = if x.getLsbD k then 1#64 else 0#64 := by
  apply BitVec.eq_of_getLsbD_eq
  intro i hi
  simp only [BitVec.getLsbD_and, BitVec.getLsbD_ushiftRight, BitVec.getLsbD_one]
  by_cases h0 : i = 0
  · subst h0
    simp only [Nat.add_zero]
    cases hx : x.getLsbD k <;> simp
  · cases hx : x.getLsbD k <;> simp [h0]

theorem one_shl (k i : Nat) (hk : k < 64) : ((1#64 : BitVec 64) <<< k).getLsbD i = decide (i = k) := by
  rw [BitVec.getLsbD_shiftLeft]
  simp only [BitVec.getLsbD_one]
  by_cases h : i = k
  · subst h; simp [hk]
  · by_cases h2 : i < k
    · simp [h2, h]
    · have : i - k ≠ 0 := by omega
      simp [h, this]

theorem chTo_get (x y z : BitVec 64) : ∀ (k i : Nat), k ≤ 64 → (chTo x y z k).getLsbD i = (decide (i < k) && (if x.getLsbD i then y.getLsbD i else z.getLsbD i)) := by
  intro k
  induction k with
  | zero => intro i _; simp [chTo]
  | succ k ih =>
    intro i hk
    have hk' : k < 64 := by omega
    simp only [chTo, BitVec.getLsbD_or, ih i (by omega)]
    have hb : (if x >>> k &&& 1#64 = 1#64 then y >>> k &&& 1#64 else z >>> k &&& 1#64) = if (if x.getLsbD k then y.getLsbD k else z.getLsbD k) then 1#64 else 0#64 := by
      rw [bit_one x k, bit_one y k, bit_one z k]
      cases x.getLsbD k <;> simp
    rw [hb]
    by_cases h : i = k
    · subst h
      cases hv : (if x.getLsbD i then y.getLsbD i else z.getLsbD i)
      · simp
      · simp [one_shl i i hk']
    · have e1 : decide (i < k + 1) = decide (i < k) := decide_eq_decide.2 (by omega)
      rw [e1]
      cases hv : (if x.getLsbD k then y.getLsbD k else z.getLsbD k)
      · simp
      · simp [one_shl k i hk', h]

theorem chTo_all (x y z : BitVec 64) : chTo x y z 64 = ch x y z := by
  apply BitVec.eq_of_getLsbD_eq
  intro i hi
  rw [chTo_get x y z 64 i (Nat.le_refl _)]
  unfold ch
  simp only [BitVec.getLsbD_xor, BitVec.getLsbD_and, BitVec.getLsbD_not, hi, decide_true, Bool.true_and]
  cases x.getLsbD i <;> cases y.getLsbD i <;> cases z.getLsbD i <;> rfl

theorem majTo_get (x y z : BitVec 64) : ∀ (k i : Nat), k ≤ 64 → (majTo x y z k).getLsbD i = (decide (i < k) && ((x.getLsbD i && y.getLsbD i) ^^ (x.getLsbD i && z.getLsbD i) ^^ (y.getLsbD i && z.getLsbD i))) := by
  intro k
  induction k with
  | zero => intro i _; simp [majTo]
  | succ k ih =>
    intro i hk
    have hk' : k < 64 := by omega
    simp only [majTo]
    rw [bit_one x k, bit_one y k, bit_one z k]
    by_cases h : i = k
    · subst h
      cases x.getLsbD i <;> cases y.getLsbD i <;> cases z.getLsbD i <;> simp [ih i (by omega), one_shl i i hk']
    · have e1 : decide (i < k + 1) = decide (i < k) := decide_eq_decide.2 (by omega)
      have e2 : (majTo x y z k ||| 1#64 <<< k).getLsbD i = (majTo x y z k).getLsbD i := by rw [BitVec.getLsbD_or, one_shl k i hk', decide_eq_false h, Bool.or_false]
      rw [e1, ← ih i (by omega), apply_ite (fun v : BitVec 64 => v.getLsbD i), e2, ite_self]

theorem majTo_all (x y z : BitVec 64) : majTo x y z 64 = maj x y z := by
  apply BitVec.eq_of_getLsbD_eq
  intro i hi
  rw [majTo_get x y z 64 i (Nat.le_refl _)]
  unfold maj
  simp only [BitVec.getLsbD_xor, BitVec.getLsbD_and, hi, decide_true, Bool.true_and]

theorem maj_or (x y z : BitVec 64) : ((x &&& y) ||| (x &&& z) ||| (y &&& z)) = maj x y z := by
  apply BitVec.eq_of_getLsbD_eq
  intro i hi
  unfold maj
  simp only [BitVec.getLsbD_xor, BitVec.getLsbD_and, BitVec.getLsbD_or]
  cases x.getLsbD i <;> cases y.getLsbD i <;> cases z.getLsbD i <;> rfl

/-! ### rotations -/

/-- A rotation to the left by m < 64, bit by bit. -/
theorem rot_get (x : BitVec 64) (m i : Nat) (hm : m < 64) (hi : i < 64) : (x <<< m ||| x >>> (64 - m)).getLsbD i = x.getLsbD ((i + (64 - m)) % 64) := by
  rw [BitVec.getLsbD_or, BitVec.getLsbD_shiftLeft, BitVec.getLsbD_ushiftRight]
  by_cases h : i < m
  · have e1 : (i + (64 - m)) % 64 = 64 - m + i := by omega
    rw [e1]
    simp [h]
  · have e1 : (i + (64 - m)) % 64 = i - m := by omega
    rw [e1]
    have e2 : x.getLsbD (64 - m + i) = false := BitVec.getLsbD_of_ge _ _ (by omega)
    simp [h, hi, e2]

theorem low6 (k : Int) : (BitVec.ofInt 64 k &&& 63#64).toNat = (k % 64).toNat := by
  have h : (BitVec.ofInt 64 k &&& 63#64).toNat = (BitVec.ofInt 64 k).toNat % 64 := by
    rw [BitVec.toNat_and]
    exact Nat.and_two_pow_sub_one_eq_mod _ 6
  rw [h, BitVec.toNat_ofInt]
  omega

theorem rotl_get (x : BitVec 64) (k : Int) (i : Nat) (hi : i < 64) : (rotl x k).getLsbD i = x.getLsbD (((i : Int) - k) % 64).toNat := by
  unfold rotl
  have h1 := low6 k
  have h2 : (k % 64).toNat < 64 := by omega
  have h3 : (64#64 - (BitVec.ofInt 64 k &&& 63#64)).toNat = 64 - (k % 64).toNat := by
    rw [BitVec.toNat_sub, h1]
    simp only [BitVec.toNat_ofNat]
    omega
  rw [h3, h1, rot_get x _ i h2 hi]
  congr 1
  omega

theorem rotr_get (x : BitVec 64) (n : Int) (i : Nat) (hi : i < 64) : (rotr x n).getLsbD i = x.getLsbD (((i : Int) + n) % 64).toNat := by
  unfold rotr
  rw [rotl_get x _ i hi]
  congr 2
  have h := Int.tmod_def n 64
  omega

theorem rotr_rotr (x : BitVec 64) (n k : Int) : rotr (rotr x n) k = rotr x (n + k) := by
  apply BitVec.eq_of_getLsbD_eq
  intro i hi
  rw [rotr_get _ k i hi, rotr_get _ n _ (by omega), rotr_get _ _ i hi]
  congr 2
  omega
theorem rotr_zero (x : BitVec 64) (n : Int) (h : n % 64 = 0) : rotr x n = x := by
  apply BitVec.eq_of_getLsbD_eq
  intro i hi
  rw [rotr_get _ n i hi]
  congr 1
  omega
theorem rotr_back (x : BitVec 64) (n : Int) : rotr (rotr x n) (-n) = x := by
  rw [rotr_rotr, rotr_zero _ _ (by omega)]

theorem refRotr_eq (x : BitVec 64) (n : Int) : refRotr x n = rotr x n := by
  have ht := tmod64 n
  have hd := Int.tmod_def n 64
  have h0 : (n.tmod 64 + 64).tmod 64 = n % 64 := by
    rw [Int.tmod_eq_emod_of_nonneg (by omega)]
    omega
  apply BitVec.eq_of_getLsbD_eq
  intro i hi
  rw [rotr_get x n i hi]
  unfold refRotr
  rw [h0]
  have hk : (BitVec.ofInt 64 (n % 64)).toNat = (n % 64).toNat := by
    rw [BitVec.toNat_ofInt]; omega
  by_cases hz : n % 64 = 0
  · rw [hz]
    show x.getLsbD i = _
    congr 1
    omega
  · have hne : ¬ BitVec.ofInt 64 (n % 64) = 0#64 := by
      intro e
      have := congrArg BitVec.toNat e
      rw [hk] at this
      simp at this
      omega
    simp only [if_neg hne]
    have h3 : (64#64 - BitVec.ofInt 64 (n % 64)).toNat = 64 - (n % 64).toNat := by
      rw [BitVec.toNat_sub, hk]
      simp only [BitVec.toNat_ofNat]
      omega
    rw [h3, hk, BitVec.or_comm]
    have h4 := rot_get x (64 - (n % 64).toNat) i (by omega) hi
    rw [show 64 - (64 - (n % 64).toNat) = (n % 64).toNat by omega] at h4
    rw [h4]
    congr 1
    omega

/-! ### the laws of the bits -/

theorem maj_turn (x y z : BitVec 64) : maj x y z = maj z x y := by
  apply BitVec.eq_of_getLsbD_eq
  intro i hi
  unfold maj
  simp only [BitVec.getLsbD_xor, BitVec.getLsbD_and]
  cases x.getLsbD i <;> cases y.getLsbD i <;> cases z.getLsbD i <;> rfl
theorem maj_same (x z : BitVec 64) : maj x x z = x := by
  apply BitVec.eq_of_getLsbD_eq
  intro i hi
  unfold maj
  simp only [BitVec.getLsbD_xor, BitVec.getLsbD_and]
  cases x.getLsbD i <;> cases z.getLsbD i <;> rfl
theorem ch_same (x y : BitVec 64) : ch x y y = y := by
  apply BitVec.eq_of_getLsbD_eq
  intro i hi
  unfold ch
  simp only [BitVec.getLsbD_xor, BitVec.getLsbD_and, BitVec.getLsbD_not, hi, decide_true, Bool.true_and]
  cases x.getLsbD i <;> cases y.getLsbD i <;> rfl
theorem ch_not (x y z : BitVec 64) : ch x y z ^^^ ch (~~~x) y z = y ^^^ z := by
  apply BitVec.eq_of_getLsbD_eq
  intro i hi
  unfold ch
  simp only [BitVec.getLsbD_xor, BitVec.getLsbD_and, BitVec.getLsbD_not, hi, decide_true, Bool.true_and]
  cases x.getLsbD i <;> cases y.getLsbD i <;> cases z.getLsbD i <;> rfl
theorem maj_ch (x y z : BitVec 64) : maj x y z = ch (x ^^^ y) z y := by
  apply BitVec.eq_of_getLsbD_eq
  intro i hi
  unfold maj ch
  simp only [BitVec.getLsbD_xor, BitVec.getLsbD_and, BitVec.getLsbD_not, hi, decide_true, Bool.true_and]
  cases x.getLsbD i <;> cases y.getLsbD i <;> cases z.getLsbD i <;> rfl

/-! ### the schedule of a part of a schedule -/

/-- k places filled, one behind the other. -/
def fillTo {α : Type} (z : α) (g : Nat → α) : Nat → Nat → α
  | 0 => fun _ => z
  | k + 1 => upd (fillTo z g k) k (g k)
theorem fillTo_get {α : Type} (z : α) (g : Nat → α) : ∀ (k i : Nat), fillTo z g k i = if i < k then g i else z := by
  intro k
  induction k with
  | zero => intro i; rw [if_neg (by omega)]; rfl
  | succ k ih =>
    intro i
    show upd _ _ _ i = _
    unfold upd
    by_cases h : i = k
    · subst h; rw [if_pos rfl, if_pos (by omega)]
    · rw [if_neg h, ih]
      by_cases h2 : i < k
      · rw [if_pos h2, if_pos (by omega)]
      · rw [if_neg h2, if_neg (by omega)]
theorem sched_part (m : Nat → BitVec 64) (p k : Nat) (hp : p ≤ 63) (hk : k < 80 - p) : schTo (fillTo 0 (fun i => schTo m 80 (p + i)) 16) 80 k = schTo m 80 (p + k) := by
  have h1 : schTo (fillTo 0 (fun i => schTo m 80 (p + i)) 16) 80 = schTo (fun i => sched m (p + i)) 80 := schTo_congr (fun i hi => by rw [fillTo_get, if_pos hi]; exact schTo_get m 80 _ (by omega)) 80
  rw [h1, schTo_get _ 80 k (by omega), schTo_get m 80 (p + k) (by omega), sched_shift]
end Go.Sym
