/-
  What the definition of chapter 8 computes. No program is in sight here.
-/
import Derived.Test.YtfojllcccncdbaaSha4
import Derived.Test.YtfojllcccncdbaaSymZeros
namespace Go.Sym
open Go

theorem be_at (x : BitVec 64) {k : Nat} (h : k < 8) : BitVec.setWidth 8 (x >>> (BitVec.ofNat 64 (56 - 8 * k)).toNat) = be x k := by
  unfold be
  rw [BitVec.toNat_ofNat, Nat.mod_eq_of_lt (by omega)]
theorem cB_fil8 (m : Nat) (z : BitVec 8) (g : Nat → BitVec 8) : cB m (fil8 z g m) = cB m g := cB_congr fun _ hi => if_pos hi
theorem cB_cat (m k : Nat) (f g : Nat → BitVec 8) : cB m f ++ cB k g = cB (m + k) (cat f m g) := by
  unfold cB
  rw [cells_append]
  refine cells_congr fun i _ => ?_
  unfold cat
  split <;> rfl
theorem cB_one1 (m : Nat) (f : Nat → BitVec 8) (c : BitVec 8) : cB m f ++ cells 1 (fun _ => B c) = cB (m + 1) (cat f m (fun _ => c)) := cB_cat m 1 f (fun _ => c)
theorem cB_zeros (m k : Nat) (f : Nat → BitVec 8) : cB m f ++ zs (B 0#8) k = cB (m + k) (cat f m (fun _ => 0#8)) := by rw [zs_B, cB_cat]
theorem zs_one (m : Nat) : ∀ u ∈ zs (B 0#8) m, u.oneCell' = true := by rw [zs_B]; exact cB_one
theorem cB_nil (m : Nat) (f : Nat → BitVec 8) : ([] : List Value) ++ cells m (fun i => B (f i)) = cB m f := rfl
theorem cat_zero (f g0 : Nat → BitVec 8) (m k : Nat) (c : BitVec 8) : cat (cat f m (cat g0 1 (fun _ => c))) (m + 1 + k) (fun _ => c) = cat f m (cat g0 1 (fun _ => c)) := by
  funext i
  unfold cat
  by_cases h1 : i < m
  · rw [if_pos (by omega), if_pos h1]
  · by_cases h2 : i < m + 1 + k
    · rw [if_pos h2]
    · rw [if_neg h2, if_neg h1, if_neg (by omega)]
theorem wordsTo_at (f : Nat → BitVec 8) : ∀ k i, wordsTo f k i = if i < k / 8 then num (fun j => f (8 * i + j)) else if i = k / 8 then numTo (fun j => f (8 * i + j)) (k % 8) else 0#64
  | 0, i => by
    show (0 : BitVec 64) = _
    rw [if_neg (by omega)]
    split <;> rfl
  | k + 1, i => by
    have ih := wordsTo_at f k
    show upd (wordsTo f k) (k / 8) (wordsTo f k (k / 8) <<< 8 ||| (f k).setWidth 64) i = _
    unfold upd
    by_cases h : i = k / 8
    · rw [if_pos h, ih (k / 8), if_neg (by omega), if_pos rfl]
      have e : numTo (fun j => f (8 * i + j)) (k % 8 + 1) = numTo (fun j => f (8 * (k / 8) + j)) (k % 8) <<< 8 ||| (f k).setWidth 64 := by
        show numTo (fun j => f (8 * i + j)) (k % 8) <<< 8 ||| (f (8 * i + k % 8)).setWidth 64 = _
        rw [h, Nat.div_add_mod]
      rw [← e]
      by_cases h2 : (k + 1) % 8 = 0
      · rw [if_pos (by omega), show k % 8 + 1 = 8 by omega]; rfl
      · rw [if_neg (by omega), if_pos (by omega), show (k + 1) % 8 = k % 8 + 1 by omega]
    · rw [if_neg h, ih i]
      by_cases h3 : i < k / 8
      · rw [if_pos h3, if_pos (by omega)]
      · rw [if_neg h3, if_neg h]
        by_cases h4 : i < (k + 1) / 8
        · omega
        · rw [if_neg h4]
          by_cases h5 : i = (k + 1) / 8
          · rw [if_pos h5, show (k + 1) % 8 = 0 by omega]; rfl
          · rw [if_neg h5]
theorem words_load (f : Nat → BitVec 8) : cU 8 (wordsTo f 64) = cU 8 (loadS f) := cU_congr fun i hi => by
  rw [wordsTo_at, if_pos (by omega)]; rfl
/-- The text that the definition closes. -/
def refEnd (f : Nat → BitVec 8) (m : Nat) (x y : BitVec 64) (z : Nat) : Nat → BitVec 8 := cat (cat (cat f m (cat (fun _ => 128#8) 1 (fun _ => 0#8))) (m + 1 + z) (be x)) (m + 1 + z + 8) (be y)
theorem refEnd_closing (f : Nat → BitVec 8) (m : Nat) (x y : BitVec 64) (z : Nat) : refEnd f m x y z = cat f m (closing x y z) := by
  funext i
  unfold refEnd closing cat
  by_cases h1 : i < m
  · rw [if_pos (by omega), if_pos (by omega), if_pos h1, if_pos h1]
  · rw [if_neg h1, if_neg h1]
    by_cases h2 : i < m + 1 + z
    · rw [if_pos (by omega), if_pos h2, if_pos (show i - m < 1 + z + 8 by omega), if_pos (show i - m < 1 + z by omega)]
    · rw [if_neg h2]
      by_cases h3 : i < m + 1 + z + 8
      · rw [if_pos h3, if_pos (show i - m < 1 + z + 8 by omega), if_neg (show ¬ i - m < 1 + z by omega)]
        congr 1; omega
      · rw [if_neg h3, if_neg (show ¬ i - m < 1 + z + 8 by omega)]
        congr 1; omega
theorem mod128 (x : BitVec 64) : (x % 128#64).toNat = x.toNat % 128 := by rw [BitVec.toNat_umod]; rfl
theorem pad_start (m : Nat) (f : Nat → BitVec 8) : cB m f ++ cells 1 (fun _ => B 128#8) = cB (m + 1 + 0) (cat f m (cat (fun _ => 128#8) 1 (fun _ => 0#8))) := by
  rw [cB_one1]
  refine cB_congr fun i hi => ?_
  unfold cat
  by_cases h : i < m
  · rw [if_pos h, if_pos h]
  · rw [if_neg h, if_neg h, if_pos (by omega)]
theorem pad_snoc (m k : Nat) (f : Nat → BitVec 8) : cB (m + 1 + k) (cat f m (cat (fun _ => 128#8) 1 (fun _ => 0#8))) ++ cells 1 (fun _ => B 0#8) = cB (m + 1 + (k + 1)) (cat f m (cat (fun _ => 128#8) 1 (fun _ => 0#8))) := by
  rw [cB_one1, cat_zero]; rfl
theorem shr61 {m : Nat} (h : m < 2305843009213693952) : BitVec.ofNat 64 m >>> 61 = 0#64 := by
  apply BitVec.eq_of_toNat_eq
  rw [BitVec.toNat_ushiftRight, BitVec.toNat_ofNat, Nat.shiftRight_eq_div_pow]
  show m % 2 ^ 64 / 2305843009213693952 = 0
  omega
theorem mul8 (x : BitVec 64) : 8#64 * x = x <<< 3 := by
  apply BitVec.eq_of_toNat_eq
  rw [BitVec.toNat_mul, BitVec.toNat_shiftLeft, Nat.shiftLeft_eq, Nat.mul_comm]; rfl
theorem be_zero : be 0#64 = fun _ => 0#8 := by
  funext i
  unfold be
  rw [BitVec.zero_ushiftRight]; rfl
theorem of_end (f : Nat → BitVec 8) (m : Nat) (h : m < 2305843009213693952) : cB (m + 1 + zc m + 8 + 8) (cat (cat (cat f m (cat (fun _ => 128#8) 1 (fun _ => 0#8))) (m + 1 + zc m) (fun _ => 0#8)) (m + 1 + zc m + 8) (be (8#64 * BitVec.ofNat 64 m))) = cB (m + (1 + zc m + 8 + 8)) (closed f m m) := by
  unfold closed
  rw [← refEnd_closing, shr61 h, mul8]
  unfold refEnd
  rw [be_zero, show m + 1 + zc m + 8 + 8 = m + (1 + zc m + 8 + 8) by omega]
theorem add72 (x : BitVec 64) : 72#64 + x % 128#64 = BitVec.ofNat 64 (72 + x.toNat % 128) := by
  apply BitVec.eq_of_toNat_eq
  rw [BitVec.toNat_add, mod128, BitVec.toNat_ofNat]
  show (72 + x.toNat % 128) % 2 ^ 64 = (72 + x.toNat % 128) % 2 ^ 64
  rfl
theorem ofNat72 {n : Nat} (h : n < 128) : (BitVec.ofNat 64 (72 + n)).toNat = 72 + n := by rw [BitVec.toNat_ofNat]; omega
theorem from_end (f : Nat → BitVec 8) (m : Nat) (x y : BitVec 64) : cB (m + 1 + zc m + 8 + 8) (cat (cat (cat f m (cat (fun _ => 128#8) 1 (fun _ => 0#8))) (m + 1 + zc m) (be x)) (m + 1 + zc m + 8) (be y)) = cB (m + (1 + zc m + 8 + 8)) (cat f m (closing x y (zc m))) := by
  rw [← refEnd_closing, show m + 1 + zc m + 8 + 8 = m + (1 + zc m + 8 + 8) by omega]
  rfl
theorem rmid_end (f : Nat → BitVec 8) (m : Nat) (_h : m < 1000000) : cB (64 + 8 + (m - m / 128 * 128) + (200 - (64 + 8 + (m - m / 128 * 128)))) (cat (cat (cat (flatB (ovr iv f (m / 128))) 64 (be (BitVec.ofNat 64 m))) (64 + 8) (fun i => f (m / 128 * 128 + i))) (64 + 8 + (m - m / 128 * 128)) (fun _ => 0#8)) = cB 200 (midF (HS.zero.puts f m)) := by
  rw [show 64 + 8 + (m - m / 128 * 128) + (200 - (64 + 8 + (m - m / 128 * 128))) = 200 by omega]
  refine cB_congr fun i hi => ?_
  have h1 := HS.puts_at iv 0 (fun _ => 0#8) f m
  have hn := HS.puts_n HS.zero f m
  have hz : HS.zero.n = 0 := rfl
  rw [hz, Nat.zero_add] at hn
  have h2 : (HS.zero.puts f m).s = ovr iv f (m / 128) := h1.1
  have h3 : ∀ i, i < m % 128 → (HS.zero.puts f m).w i = f (128 * (m / 128) + i) := h1.2
  unfold midF cat
  rw [h2, hn]
  by_cases a1 : i < 64
  · simp only [if_pos a1, if_pos (show i < 64 + 8 by omega), if_pos (show i < 64 + 8 + (m - m / 128 * 128) by omega)]
  · by_cases a2 : i < 72
    · simp only [if_neg a1, if_pos a2, if_pos (show i < 64 + 8 + (m - m / 128 * 128) by omega)]
    · by_cases a3 : i < 72 + m % 128
      · simp only [if_neg a1, if_neg a2, if_pos a3, if_pos (show i < 64 + 8 + (m - m / 128 * 128) by omega), h3 _ (show i - 72 < m % 128 by omega)]
        rw [Nat.mul_comm]
      · simp only [if_neg a1, if_neg a2, if_neg a3, if_neg (show ¬ i < 64 + 8 + (m - m / 128 * 128) by omega)]
end Go.Sym
