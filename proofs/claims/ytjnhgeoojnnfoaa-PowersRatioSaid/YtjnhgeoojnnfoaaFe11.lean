/-
  A number by limbs and the same number by digits: what the laws of chapter 9 that speak of the definition need. No program is in sight here.
-/
import Derived.Test.YtjnhgeoojnnfoaaFe5
import Derived.Test.YtjnhgeoojnnfoaaFe10
namespace Go.Sym
open Go

def Tw (x : Nat → BitVec 64) (n : Nat) : Prop := Ok x ∧ n < pP ∧ val x % pP = n
theorem Tw.ok {x : Nat → BitVec 64} {n : Nat} (h : Tw x n) : Ok x := h.1
theorem Tw.lt {x : Nat → BitVec 64} {n : Nat} (h : Tw x n) : n < pP := h.2.1
theorem Tw.eq {x : Nat → BitVec 64} {n : Nat} (h : Tw x n) : val x % pP = n := h.2.2
theorem Tw.read (f : Nat → BitVec 8) : Tw (limb51 (natB f 32)) (natB f 32 % 2 ^ 255 % pP) := ⟨limb51_ok _, Nat.mod_lt _ pP_pos, by rw [limb51_val]⟩
theorem small_lt (n : BitVec 64) : n.toNat < pP := Nat.lt_trans n.isLt (by decide +kernel)
theorem Tw.small (n : BitVec 64) : Tw (limb51 n.toNat) n.toNat := ⟨limb51_ok _, small_lt n, by rw [limb51_val, Nat.mod_eq_of_lt (Nat.lt_of_lt_of_le n.isLt (by decide)), Nat.mod_eq_of_lt (small_lt n)]⟩
theorem Tw.zero : Tw (fun _ => 0) 0 := ⟨zero_ok, pP_pos, by rw [zero_val]; rfl⟩
theorem Tw.add {x y : Nat → BitVec 64} {m n : Nat} (hx : Tw x m) (hy : Tw y n) : Tw (feAdd x y) ((m + n) % pP) := by
  have h := feAdd_ok hx.1 hy.1
  exact ⟨h.1, Nat.mod_lt _ pP_pos, by rw [h.2, Nat.add_mod, hx.2.2, hy.2.2]⟩
theorem Tw.mul {x y : Nat → BitVec 64} {m n : Nat} (hx : Tw x m) (hy : Tw y n) : Tw (feMul x y) (m * n % pP) := by
  have h := mul_law hx.1 hy.1
  exact ⟨h.1, Nat.mod_lt _ pP_pos, by rw [h.2, Nat.mul_mod, hx.2.2, hy.2.2]⟩
theorem sub_twin (v m n p : Nat) (_hm : m < p) (hn : n < p) (hv : v < p) (h : (v + n) % p = m) : v = (m + p - n) % p := by
  rcases Nat.lt_or_ge (v + n) p with h1 | h1
  · rw [Nat.mod_eq_of_lt h1] at h
    rw [show m + p - n = v + p by omega, Nat.add_mod_right, Nat.mod_eq_of_lt hv]
  · rw [Nat.mod_eq_sub_mod h1, Nat.mod_eq_of_lt (by omega)] at h
    rw [show m + p - n = v by omega, Nat.mod_eq_of_lt hv]
theorem Tw.sub {x y : Nat → BitVec 64} {m n : Nat} (hx : Tw x m) (hy : Tw y n) : Tw (feSub x y) ((m + pP - n) % pP) := by
  have h := feSub_ok hx.1 hy.1
  refine ⟨h.1, Nat.mod_lt _ pP_pos, sub_twin _ _ _ _ hx.2.1 hy.2.1 (Nat.mod_lt _ pP_pos) ?_⟩
  have h2 := h.2
  rw [Nat.add_mod, hy.2.2, hx.2.2] at h2
  exact h2
theorem Tw.neg {x : Nat → BitVec 64} {n : Nat} (hx : Tw x n) : Tw (feSub (fun _ => 0) x) ((0 + pP - n) % pP) := Tw.zero.sub hx
theorem tw_bytes {x : Nat → BitVec 64} {n : Nat} (h : Tw x n) : ∀ i, i < 32 → byt (val x % pP) i = byt n i := fun i _ => by rw [h.2.2]
theorem tw_odd {x : Nat → BitVec 64} {n : Nat} (h : Tw x n) : decide (val x % pP % 2 = 1) = decide (n % 2 = 1) := by rw [h.2.2]
theorem dig_inj {m n : Nat} (hm : m < pP) (hn : n < pP) (h : ∀ i, i < 16 → dig m i = dig n i) : m = n := by
  have := high_eq (Nat.lt_trans hm p_lt256) (Nat.lt_trans hn p_lt256) 16 0 rfl (fun i _ h2 => h i h2)
  simpa using this
theorem dig_eqR {m n : Nat} (hm : m < pP) (hn : n < pP) : eqR 16 (dig m) (dig n) = decide (m = n) := by
  rw [Bool.eq_iff_iff, eqR_iff, decide_eq_true_eq]
  exact ⟨dig_inj hm hn, fun h i _ => by rw [h]⟩
theorem tw_equal {x y : Nat → BitVec 64} {m n : Nat} (hx : Tw x m) (hy : Tw y n) : decide (val x % pP = val y % pP) = eqR 16 (dig m) (dig n) := by
  rw [dig_eqR hx.2.1 hy.2.1, hx.2.2, hy.2.2]
theorem tw_zero {x : Nat → BitVec 64} {n : Nat} (hx : Tw x n) : decide (val x % pP = 0) = eqR 16 (dig n) (fun _ => 0) := by
  rw [← dig_zero, dig_eqR hx.2.1 pP_pos, hx.2.2]
end Go.Sym
