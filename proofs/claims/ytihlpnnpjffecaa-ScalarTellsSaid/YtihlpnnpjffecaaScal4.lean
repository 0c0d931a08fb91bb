/-
  The plain law of chapter 11: what its laws come to, once their numbers are known. No program is in sight here.
-/
import Derived.Test.YtihlpnnpjffecaaScal2
namespace Go.Sym
open Go

theorem natB_zero (k : Nat) : natB (fun _ => 0) k = 0 := by
  induction k with
  | zero => rfl
  | succ k ih => rw [natB_succ, ih]; simp
theorem natB_red (n : Nat) : natB (byt (n % ordL)) 32 = n % ordL := natB_bytL (mod_lt256 n)
theorem natB_redk (n k : Nat) : natB (byt (red n k)) 32 = red n k := natB_red _
theorem natB_1 : natB (byt 1) 32 = 1 := natB_bytL (by decide +kernel)
theorem natB_2 : natB (byt 2) 32 = 2 := natB_bytL (by decide +kernel)
theorem natB_ord : natB (byt ordL) 32 = ordL := natB_bytL ord_lt256
theorem byt_zero : byt 0 = fun _ => 0 := by funext i; unfold byt; rw [Nat.zero_div]; rfl
theorem byt_eq {m n : Nat} (h : m = n) : ∀ i, i < 32 → byt m i = byt n i := fun i _ => by rw [h]

/-! ### two halves -/

theorem natB_parts (f : Nat → BitVec 8) (k : Nat) : ∀ d, natB f (k + d) = natB f k + natB (fun j => f (k + j)) d * 2 ^ (8 * k) := by
  intro d
  induction d with
  | zero => simp [natB, sumD]
  | succ d ih =>
    rw [show k + (d + 1) = (k + d) + 1 by omega, natB_succ, natB_succ, ih, Nat.add_mul, show 8 * (k + d) = 8 * d + 8 * k by omega, Nat.pow_add, Nat.mul_assoc]
    omega
/-- Two rows, one behind the other, k places of each having been laid. -/
def wTo (f g : Nat → BitVec 8) (k : Nat) : Nat → BitVec 8 := fun j => if j < k then f j else if 32 ≤ j ∧ j < 32 + k then g (j - 32) else 0
theorem wTo_zero (f g : Nat → BitVec 8) : wTo f g 0 = fun _ => 0 := by
  funext j
  unfold wTo
  rw [if_neg (by omega), if_neg (by omega)]
theorem wTo_step (f g : Nat → BitVec 8) (k : Nat) (hk : k < 32) : upd (upd (wTo f g k) k (f k)) (32 + k) (g k) = wTo f g (k + 1) := by
  funext j
  unfold upd wTo
  by_cases h1 : j = 32 + k
  · subst h1
    rw [if_pos rfl, if_neg (by omega), if_pos (by omega), Nat.add_sub_cancel_left]
  · rw [if_neg h1]
    by_cases h2 : j = k
    · subst h2
      rw [if_pos rfl, if_pos (by omega)]
    · rw [if_neg h2]
      by_cases h3 : j < k
      · rw [if_pos h3, if_pos (by omega)]
      · rw [if_neg h3, if_neg (show ¬ j < k + 1 by omega)]
        by_cases h4 : 32 ≤ j ∧ j < 32 + k
        · rw [if_pos h4, if_pos (by omega)]
        · rw [if_neg h4, if_neg (by omega)]
theorem natB_wide (f g : Nat → BitVec 8) : natB (wTo f g 32) 64 = natB f 32 + natB g 32 * 2 ^ 256 := by
  have h := natB_parts (wTo f g 32) 32 32
  have h1 : natB (wTo f g 32) 32 = natB f 32 := natB_congr fun i hi => if_pos hi
  have h2 : natB (fun j => wTo f g 32 (32 + j)) 32 = natB g 32 := natB_congr fun i hi => by
    unfold wTo
    rw [if_neg (by omega), if_pos (by omega), Nat.add_sub_cancel_left]
  rw [h1, h2] at h
  exact h
theorem natB_fil (n k d : Nat) (hn : n < 2 ^ (8 * k)) : natB (fil 0 (byt n) k) (k + d) = n := by
  rw [natB_parts]
  have h1 : natB (fil 0 (byt n) k) k = n := by
    rw [natB_congr (g := byt n) (fun i hi => by rw [fil_get, if_pos hi]), natB_byt]
    exact Nat.mod_eq_of_lt hn
  have h2 : natB (fun j => fil 0 (byt n) k (k + j)) d = 0 := by
    rw [natB_congr (g := fun _ => 0) (fun i _ => by rw [fil_get, if_neg (by omega)]), natB_zero]
  rw [h1, h2]
  omega

/-! ### the laws -/

theorem nring2 (a b c m : Nat) : ((a * b + 0) % m * c + 0) % m = (a * ((b * c + 0) % m) + 0) % m := by
  simp only [Nat.add_zero, Nat.mod_mul_mod, Nat.mul_mod_mod, Nat.mul_assoc]
theorem nring3 (a b c m : Nat) : (a * ((b + c) % m) + 0) % m = ((a * b + 0) % m + (a * c + 0) % m) % m := by
  simp only [Nat.add_zero, Nat.mul_mod_mod, Nat.mod_add_mod, Nat.add_mod_mod, Nat.mul_add]
theorem nring5 (a b c m : Nat) : (a * b + c) % m = ((a * b + 0) % m + c) % m := by
  simp only [Nat.add_zero, Nat.mod_add_mod]
theorem nwide (a b p m : Nat) : (a + b * p) % m = (b * ((0 + 1 * p) % m) + a) % m := by
  simp only [Nat.zero_add, Nat.one_mul]
  rw [← Nat.mod_add_mod (b * _), Nat.mul_mod_mod, Nat.mod_add_mod, Nat.add_comm]
section
variable (f g h : Nat → BitVec 8)
theorem three_lt : 1 + 2 < ordL := by decide +kernel
theorem alive_red : ∀ i, i < 32 → byt (natB (fil 0 (byt ordL) 32) 64 % ordL) i = 0 := by
  intro i _
  rw [show (64 : Nat) = 32 + 32 from rfl, natB_fil ordL 32 32 ord_lt256, Nat.mod_self, byt_zero]
theorem alive_sum : ∀ i, i < 32 → byt ((natB (byt 1) 32 + natB (byt 2) 32) % ordL) i = byt 3 i := by
  rw [natB_1, natB_2]
  exact byt_eq (Nat.mod_eq_of_lt three_lt)
theorem ring1 : (natB f 32 * natB g 32 + natB (fun _ => 0) 32) % ordL = (natB g 32 * natB f 32 + natB (fun _ => 0) 32) % ordL := by rw [Nat.mul_comm]
theorem ring2 : (natB (byt ((natB f 32 * natB g 32 + natB (fun _ => 0) 32) % ordL)) 32 * natB h 32 + natB (fun _ => 0) 32) % ordL = (natB f 32 * natB (byt ((natB g 32 * natB h 32 + natB (fun _ => 0) 32) % ordL)) 32 + natB (fun _ => 0) 32) % ordL := by
  rw [natB_red, natB_red, natB_zero]
  exact nring2 _ _ _ _
theorem ring3 : (natB f 32 * natB (byt ((natB g 32 + natB h 32) % ordL)) 32 + natB (fun _ => 0) 32) % ordL =
    (natB (byt ((natB f 32 * natB g 32 + natB (fun _ => 0) 32) % ordL)) 32 + natB (byt ((natB f 32 * natB h 32 + natB (fun _ => 0) 32) % ordL)) 32) % ordL := by
  rw [natB_red, natB_red, natB_red, natB_zero]
  exact nring3 _ _ _ _
theorem ring4 : (natB f 32 * natB (byt 1) 32 + natB g 32) % ordL = (natB f 32 + natB g 32) % ordL := by rw [natB_1, Nat.mul_one]
theorem ring5 : (natB f 32 * natB g 32 + natB h 32) % ordL = (natB (byt ((natB f 32 * natB g 32 + natB (fun _ => 0) 32) % ordL)) 32 + natB h 32) % ordL := by
  rw [natB_red, natB_zero]
  exact nring5 _ _ _ _
theorem ring6 : (natB f 32 + natB (fun _ => 0) 32) % ordL = natB (wTo f (fun _ => 0) 32) 64 % ordL := by
  rw [natB_wide, natB_zero, Nat.zero_mul]
theorem wide1 : natB (wTo f g 32) 64 % ordL = (natB g 32 * natB (byt (natB (wTo (fun _ => 0) (byt 1) 32) 64 % ordL)) 32 + natB f 32) % ordL := by
  rw [natB_red, natB_wide, natB_wide, natB_zero, natB_1]
  exact nwide _ _ _ _

theorem lack_mod (n : Nat) : (n + (ordL - n % ordL) % ordL) % ordL = 0 := by
  have h1 : n % ordL < ordL := Nat.mod_lt _ ordL_pos
  rw [Nat.add_mod_mod, ← Nat.mod_add_mod, show n % ordL + (ordL - n % ordL) = ordL by omega, Nat.mod_self]
theorem neg1 : ∀ i, i < 32 → byt ((natB f 32 + natB (byt ((ordL - natB f 32 % ordL) % ordL)) 32) % ordL) i = 0 := by
  intro i _
  rw [natB_red, lack_mod, byt_zero]
theorem lack_lack (n : Nat) : (ordL - (ordL - n % ordL) % ordL % ordL) % ordL = n % ordL := by
  have h1 : n % ordL < ordL := Nat.mod_lt _ ordL_pos
  rw [Nat.mod_mod]
  by_cases h0 : n % ordL = 0
  · rw [h0, Nat.sub_zero, Nat.mod_self, Nat.sub_zero, Nat.mod_self]
  · rw [Nat.mod_eq_of_lt (show ordL - n % ordL < ordL by omega), show ordL - (ordL - n % ordL) = n % ordL by omega, Nat.mod_mod]
theorem neg2 : (ordL - natB (byt ((ordL - natB f 32 % ordL) % ordL)) 32 % ordL) % ordL = (natB f 32 + natB (fun _ => 0) 32) % ordL := by
  rw [natB_red, lack_lack, natB_zero, Nat.add_zero]
theorem neg3 : (natB f 32 + natB (byt ordL) 32) % ordL = (natB f 32 + natB (fun _ => 0) 32) % ordL := by
  rw [natB_ord, natB_zero, Nat.add_mod_right, Nat.add_zero]

/-! bit by bit -/
theorem bits_start : red (natB f 32) 256 = 0 := red_top _ 256 (natB_lt f 32)
theorem bits_yes {i : Nat} (hi : i < 256) (hb : bitZ f (i : Int) = 1) : byt ((natB (byt ((natB (byt (red (natB f 32) (i + 1))) 32 + natB (byt (red (natB f 32) (i + 1))) 32) % ordL)) 32 + natB (byt 1) 32) % ordL) = byt (red (natB f 32) i) := by
  rw [natB_red, natB_redk, natB_1, red_step (natB f 32) i, Nat.mod_add_mod]
  unfold bitZ at hb
  rw [if_pos (by omega)] at hb
  have : (i : Int).toNat = i := rfl
  rw [this] at hb
  rw [hb, Nat.two_mul]
theorem bits_no {i : Nat} (hi : i < 256) (hb : ¬ bitZ f (i : Int) = 1) : byt ((natB (byt (red (natB f 32) (i + 1))) 32 + natB (byt (red (natB f 32) (i + 1))) 32) % ordL) = byt (red (natB f 32) i) := by
  rw [natB_redk, red_step (natB f 32) i]
  unfold bitZ at hb
  rw [if_pos (by omega)] at hb
  have e : (i : Int).toNat = i := rfl
  rw [e] at hb
  have h1 : natB f 32 / 2 ^ i % 2 < 2 := Nat.mod_lt _ (by decide)
  have h0 : natB f 32 / 2 ^ i % 2 = 0 := by omega
  rw [h0, Nat.two_mul]
  exact congrArg (fun z => byt (z % ordL)) (Nat.add_zero _).symm
theorem bits_end : red (natB f 32) 0 = (natB f 32 + natB (fun _ => 0) 32) % ordL := by rw [red_zero, natB_zero, Nat.add_zero]

theorem canon_red_lt (n : Nat) : decide (natB (byt (n % ordL)) 32 < ordL) = true := by rw [natB_red]; exact decide_eq_true (Nat.mod_lt _ ordL_pos)
theorem canon_ord : decide (natB (byt ordL) 32 < ordL) = false := by rw [natB_ord]; exact decide_eq_false (Nat.lt_irrefl _)
theorem isScalar_eq : eqR 32 (byt (natB f 32 % ordL)) f = decide (natB f 32 < ordL) := by
  by_cases h1 : natB f 32 < ordL
  · rw [decide_eq_true h1, Nat.mod_eq_of_lt h1]
    exact eqR_true fun i hi => byt_natB f 32 i hi
  · rw [decide_eq_false h1]
    cases he : eqR 32 (byt (natB f 32 % ordL)) f with
    | false => rfl
    | true =>
      have h2 := natB_congr (eqR_iff.1 he)
      rw [natB_red] at h2
      exact absurd (h2 ▸ Nat.mod_lt _ ordL_pos) h1
end
end Go.Sym
