/-
  What the laws of package fe say, as congruences modulo 2^255 - 19. No program is in sight here.
-/
import Derived.Test.YtjnhgeoojnnfoaaFe3
namespace Go.Sym
open Go

/-- Limbs that fit and stand for n. -/
def Cg (x : Nat → BitVec 64) (n : Int) : Prop := Ok x ∧ (val x : Int) % (pP : Int) = n % (pP : Int)
theorem Cg.self {x : Nat → BitVec 64} (h : Ok x) : Cg x (val x) := ⟨h, rfl⟩
theorem int_mod {a b : Nat} (h : a % pP = b % pP) : (a : Int) % (pP : Int) = (b : Int) % (pP : Int) := by
  exact_mod_cast congrArg (fun q : Nat => (q : Int)) h
theorem nat_mod {a b : Nat} (h : (a : Int) % (pP : Int) = (b : Int) % (pP : Int)) : a % pP = b % pP := by
  exact_mod_cast h
theorem Cg.add {x y : Nat → BitVec 64} {m n : Int} (hx : Cg x m) (hy : Cg y n) : Cg (feAdd x y) (m + n) := by
  have h := feAdd_ok hx.1 hy.1
  refine ⟨h.1, ?_⟩
  rw [int_mod h.2, Int.natCast_add, Int.add_emod, hx.2, hy.2, ← Int.add_emod]
theorem Cg.mul {x y : Nat → BitVec 64} {m n : Int} (hx : Cg x m) (hy : Cg y n) : Cg (feMul x y) (m * n) := by
  have h := mul_law hx.1 hy.1
  refine ⟨h.1, ?_⟩
  rw [int_mod h.2, Int.natCast_mul, Int.mul_emod, hx.2, hy.2, ← Int.mul_emod]
theorem Cg.sub {x y : Nat → BitVec 64} {m n : Int} (hx : Cg x m) (hy : Cg y n) : Cg (feSub x y) (m - n) := by
  have h := feSub_ok hx.1 hy.1
  refine ⟨h.1, ?_⟩
  have h2 := int_mod h.2
  rw [Int.natCast_add] at h2
  have h3 : ((val (feSub x y) : Int) + val y - val y) % (pP : Int) = ((val x : Int) - val y) % (pP : Int) := by
    rw [Int.sub_emod, h2, ← Int.sub_emod]
  rw [Int.add_sub_cancel] at h3
  rw [h3, Int.sub_emod, hx.2, hy.2, ← Int.sub_emod]
theorem Cg.zero : Cg (fun _ => 0) 0 := ⟨zero_ok, by rw [zero_val]; rfl⟩
theorem Cg.small (n : BitVec 64) : Cg (limb51 n.toNat) n.toNat := ⟨limb51_ok _, by rw [limb51_val, Nat.mod_eq_of_lt (Nat.lt_of_lt_of_le n.isLt (by decide))]⟩
theorem Cg.eq {x y : Nat → BitVec 64} {m n : Int} (hx : Cg x m) (hy : Cg y n) (h : m = n) : val x % pP = val y % pP := nat_mod (by rw [hx.2, hy.2, h])

theorem b_lssBt {t : TypeId} {x y : BitVec 8} (h : x.toNat < y.toNat) : binOp .lss t (B x) (B y) = pure (.bool true) := by rw [b_lssB, decide_eq_true h]
theorem Cg.ok {x : Nat → BitVec 64} {m : Int} (h : Cg x m) : Ok x := h.1
theorem neg_nat (m v p : Nat) (hm : m < p) (hv : v < p) (hp : p % 2 = 1) (h : (m + v) % p = 0) : (m % 2 = 1 ↔ v % 2 = 1) ↔ v = 0 := by
  obtain ⟨q, hq⟩ := Nat.dvd_of_mod_eq_zero h
  have : q < 2 := Nat.lt_of_mul_lt_mul_left (a := p) (by omega)
  obtain rfl | rfl : q = 0 ∨ q = 1 := by omega
  · omega
  · omega
theorem neg_odd {x : Nat → BitVec 64} (hx : Ok x) : (decide (val x % pP % 2 = 1) != decide (val (feSub (fun _ => 0) x) % pP % 2 = 1)) = !decide (val x % pP = 0) := by
  have h := (feSub_ok zero_ok hx).2
  rw [zero_val, Nat.add_mod] at h
  have h2 := neg_nat (val (feSub (fun _ => 0) x) % pP) (val x % pP) pP (Nat.mod_lt _ pP_pos) (Nat.mod_lt _ pP_pos) (by decide) (h.trans (Nat.zero_mod _))
  generalize val (feSub (fun _ => 0) x) % pP = m at h2 ⊢
  generalize val x % pP = v at h2 ⊢
  by_cases h4 : v % 2 = 1
  · have h3 : ¬ v = 0 := by omega
    by_cases h5 : m % 2 = 1
    · exact absurd (h2.1 ⟨fun _ => h4, fun _ => h5⟩) h3
    · rw [decide_eq_true h4, decide_eq_false h5, decide_eq_false h3]; rfl
  · by_cases h5 : m % 2 = 1
    · have h3 : ¬ v = 0 := fun h3 => h4 ((h2.2 h3).1 h5)
      rw [decide_eq_false h4, decide_eq_true h5, decide_eq_false h3]; rfl
    · have h3 : v = 0 := h2.1 ⟨fun q => absurd q h5, fun q => absurd q h4⟩
      rw [decide_eq_false h4, decide_eq_false h5, decide_eq_true h3]; rfl
/-! ### FeBack -/
theorem flip_top (b : BitVec 8) : (b ^^^ 128#8).toNat % 128 = b.toNat % 128 := by
  have h : (b ^^^ 128#8) &&& ~~~128#8 = b &&& ~~~128#8 := by
    rw [show (~~~128#8 : BitVec 8) = 127#8 from rfl]
    apply BitVec.eq_of_getLsbD_eq
    intro i hi
    obtain rfl | rfl | rfl | rfl | rfl | rfl | rfl | rfl : i = 0 ∨ i = 1 ∨ i = 2 ∨ i = 3 ∨ i = 4 ∨ i = 5 ∨ i = 6 ∨ i = 7 := by omega
    all_goals simp
  rw [← clear_top, ← clear_top, h]
theorem natB_flip (f : Nat → BitVec 8) : natB (upd f 31 (f 31 ^^^ 128#8)) 32 % 2 ^ 255 = natB f 32 % 2 ^ 255 := by
  have h1 : natB (upd f 31 (f 31 ^^^ 128#8)) 32 = natB (upd f 31 (f 31 ^^^ 128#8)) 31 + (upd f 31 (f 31 ^^^ 128#8) 31).toNat * 2 ^ (8 * 31) := rfl
  have h2 : natB f 32 = natB f 31 + (f 31).toNat * 2 ^ (8 * 31) := rfl
  have h3 : natB (upd f 31 (f 31 ^^^ 128#8)) 31 = natB f 31 := natB_congr fun i hi => upd_ne _ _ (by omega)
  rw [h1, h3, upd_self, h2]
  have e1 := top_nat (natB f 31) (f 31 ^^^ 128#8).toNat _ (natB_lt f 31)
  have e2 := top_nat (natB f 31) (f 31).toNat _ (natB_lt f 31)
  rw [flip_top] at e1
  exact e1.trans e2.symm
theorem back1 (x : Nat → BitVec 64) : val (limb51 (natB (byt (val x % pP)) 32)) % pP = val x % pP := by
  rw [natB_byt, Nat.mod_eq_of_lt (val_lt256 x), limb51_val, Nat.mod_eq_of_lt (val_lt255 x), Nat.mod_mod]
theorem back2 (x : Nat → BitVec 64) : natB (byt (val x % pP)) 32 % 2 ^ 255 < pP := by
  rw [natB_byt, Nat.mod_eq_of_lt (val_lt256 x), Nat.mod_eq_of_lt (val_lt255 x)]
  exact Nat.mod_lt _ pP_pos
theorem back3 (x : Nat → BitVec 64) : (byt (val x % pP) 31).toNat < 128 := by
  rw [byt_toNat]
  have := val_lt255 x
  generalize val x % pP = n at this ⊢
  have h : n / 2 ^ (8 * 31) < 128 := Nat.div_lt_of_lt_mul this
  exact Nat.lt_of_le_of_lt (Nat.mod_le _ _) h
theorem back4 (f : Nat → BitVec 8) : val (limb51 (natB (upd f 31 (f 31 ^^^ 128#8)) 32)) % pP = val (limb51 (natB f 32)) % pP := by
  rw [limb51_val, limb51_val, natB_flip]
theorem back5 (f : Nat → BitVec 8) : decide (natB f 32 % 2 ^ 255 < pP) = decide (natB (upd f 31 (f 31 ^^^ 128#8)) 32 % 2 ^ 255 < pP) := by
  rw [natB_flip]
/-! ### FeEdges -/
def edge (n : Nat) : Nat → BitVec 8 := upd (upd (fun _ => 255#8) 0 (BitVec.ofNat 8 n)) 31 127#8
theorem natB_first (h : Nat → BitVec 8) (b : BitVec 8) : ∀ k, natB (upd h 0 b) (k + 1) = natB (upd h 0 0) (k + 1) + b.toNat := by
  intro k
  induction k with
  | zero =>
    show 0 + (upd h 0 b 0).toNat * 2 ^ (8 * 0) = 0 + (upd h 0 0 0).toNat * 2 ^ (8 * 0) + b.toNat
    rw [upd_self, upd_self]; simp
  | succ k ih =>
    show natB (upd h 0 b) (k + 1) + (upd h 0 b (k + 1)).toNat * 2 ^ (8 * (k + 1)) = natB (upd h 0 0) (k + 1) + (upd h 0 0 (k + 1)).toNat * 2 ^ (8 * (k + 1)) + b.toNat
    rw [ih, upd_ne _ _ (by omega), upd_ne _ _ (by omega)]; omega
theorem edge_nat (n : Nat) (h : n ≤ 255) : natB (edge n) 32 + 237 = pP + n := by
  have h1 : natB (edge n) 32 = natB (upd (upd (fun _ => 255#8) 31 127#8) 0 (BitVec.ofNat 8 n)) 32 := natB_congr fun i _ => by
    unfold edge upd
    by_cases h0 : i = 0
    · subst h0; rfl
    · by_cases h1 : i = 31
      · subst h1; rfl
      · rw [if_neg h1, if_neg h0, if_neg h0, if_neg h1]
  rw [h1, natB_first, BitVec.toNat_ofNat, Nat.mod_eq_of_lt (by omega)]
  have h2 : natB (upd (upd (fun _ => 255#8) 31 127#8) 0 0) (31 + 1) + 237 = pP := by decide +kernel
  omega
theorem edge_lt (n : Nat) (h : n ≤ 255) : natB (edge n) 32 < 2 ^ 255 := by
  have := edge_nat n h; have := pP_eq; omega
theorem edge1 (n : Nat) (h : n < 237) : natB (edge n) 32 % 2 ^ 255 < pP := by
  have := edge_nat n (by omega)
  rw [Nat.mod_eq_of_lt (edge_lt n (by omega))]; omega
theorem edge_val (n : Nat) (h : n ≤ 255) : val (limb51 (natB (edge n) 32)) = natB (edge n) 32 := by
  rw [limb51_val, Nat.mod_eq_of_lt (edge_lt n h)]
theorem small_val (m : Nat) (h : m ≤ 255) : val (limb51 (BitVec.ofNat 64 m).toNat) = m := by
  rw [BitVec.toNat_ofNat, Nat.mod_eq_of_lt (by omega), limb51_val, Nat.mod_eq_of_lt (Nat.lt_of_le_of_lt h (by decide))]
theorem edge2 (n : Nat) (h : n < 237) : val (feAdd (limb51 (natB (edge n) 32)) (limb51 (BitVec.ofNat 64 (237 - n)).toNat)) % pP = val (limb51 (0#64).toNat) % pP := by
  rw [(feAdd_ok (limb51_ok _) (limb51_ok _)).2, edge_val n (by omega), small_val _ (by omega)]
  have := edge_nat n (by omega)
  rw [show natB (edge n) 32 + (237 - n) = pP by omega, Nat.mod_self]
  decide +kernel
theorem edge3 (n : Nat) (h : n < 237) : ∀ i, i < 32 → byt (val (limb51 (natB (edge n) 32)) % pP) i = edge n i := fun i hi => by
  have := edge_nat n (by omega)
  rw [edge_val n (by omega), Nat.mod_eq_of_lt (show natB (edge n) 32 < pP by omega), byt_natB _ _ _ hi]
theorem edge4 (n : Nat) (h : ¬ n < 237) (h2 : n ≤ 255) : ¬ natB (edge n) 32 % 2 ^ 255 < pP := by
  have := edge_nat n (by omega)
  rw [Nat.mod_eq_of_lt (edge_lt n (by omega))]; omega
theorem edge5 (n : Nat) (h : ¬ n < 237) (h2 : n ≤ 255) : val (limb51 (natB (edge n) 32)) % pP = val (limb51 (BitVec.ofNat 64 (n - 237)).toNat) % pP := by
  have := edge_nat n (by omega)
  rw [edge_val n h2, small_val _ (by omega), show natB (edge n) 32 = n - 237 + pP by omega, Nat.add_mod_right]
end Go.Sym
