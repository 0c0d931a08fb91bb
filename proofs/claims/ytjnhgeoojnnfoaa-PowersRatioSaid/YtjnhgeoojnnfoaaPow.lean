/-
  Powers, inverses and roots modulo the prime of chapter 9: what the walks compute, by limbs and by numbers. No program is in sight here.
-/
import Derived.Test.YtjnhgeoojnnfoaaFe11
import Derived.Test.YtjnhgeoojnnfoaaPrimeP
namespace Go.Sym
open Go

/-! ### powers -/
def powG (x : Nat → BitVec 64) (e : Nat → BitVec 8) : Nat → Nat → BitVec 64
  | 0 => limb51 (1#64).toNat
  | j + 1 => if e ((255 - j) / 8) >>> ((255 - j) % 8) &&& 1#8 = 1#8 then feMul (feMul (powG x e j) (powG x e j)) x else feMul (powG x e j) (powG x e j)
theorem powG_one {x : Nat → BitVec 64} {e : Nat → BitVec 8} {j : Nat} (h : e ((255 - j) / 8) >>> ((255 - j) % 8) &&& 1#8 = 1#8) : powG x e (j + 1) = feMul (feMul (powG x e j) (powG x e j)) x := if_pos h
theorem powG_none {x : Nat → BitVec 64} {e : Nat → BitVec 8} {j : Nat} (h : ¬ e ((255 - j) / 8) >>> ((255 - j) % 8) &&& 1#8 = 1#8) : powG x e (j + 1) = feMul (powG x e j) (powG x e j) := if_neg h
theorem byt_bit (n i : Nat) : byt n (i / 8) >>> (i % 8) &&& 1#8 = BitVec.ofNat 8 (n / 2 ^ i % 2) := by
  apply BitVec.eq_of_toNat_eq
  rw [BitVec.toNat_and, BitVec.toNat_ushiftRight, byt_toNat, Nat.shiftRight_eq_div_pow, show (1#8 : BitVec 8).toNat = 2 ^ 1 - 1 from rfl, Nat.and_two_pow_sub_one_eq_mod, BitVec.toNat_ofNat]
  have h1 : n / 2 ^ i = n / 2 ^ (8 * (i / 8)) / 2 ^ (i % 8) := by
    rw [Nat.div_div_eq_div_mul, ← Nat.pow_add, Nat.div_add_mod]
  rw [h1]
  generalize n / 2 ^ (8 * (i / 8)) = q
  have hs : i % 8 < 8 := Nat.mod_lt _ (by decide)
  generalize i % 8 = s at hs
  have h2 : q % 2 ^ 8 / 2 ^ s % 2 ^ 1 = q / 2 ^ s % 2 := by
    have e : 2 ^ 8 = 2 ^ s * 2 ^ (8 - s) := by rw [← Nat.pow_add]; congr 1; omega
    rw [e, Nat.mod_mul_right_div_self, Nat.mod_mod_of_dvd]
    exact ⟨2 ^ (8 - s - 1), by rw [← Nat.pow_add]; congr 1; omega⟩
  rw [h2]
  omega
theorem bit_is (e : Nat → BitVec 8) (i : Nat) (hi : i < 256) : (e (i / 8) >>> (i % 8) &&& 1#8 = 1#8) ↔ natB e 32 / 2 ^ i % 2 = 1 := by
  rw [← byt_natB e 32 (i / 8) (by omega), byt_bit]
  have : natB e 32 / 2 ^ i % 2 < 2 := Nat.mod_lt _ (by decide)
  constructor
  · intro h
    have := congrArg BitVec.toNat h
    rw [BitVec.toNat_ofNat] at this
    simp only [BitVec.toNat_ofNat] at this
    omega
  · intro h; rw [h]
def np (n E j : Nat) : Nat := n ^ (E / 2 ^ (256 - j)) % pP
theorem np_lt (n E j : Nat) : np n E j < pP := Nat.mod_lt _ pP_pos
theorem np_zero {n E : Nat} (hE : E < 2 ^ 256) : np n E 0 = 1 := by
  unfold np
  rw [Nat.sub_zero, Nat.div_eq_of_lt hE, Nat.pow_zero]
  decide +kernel
theorem div_bit (E i : Nat) : E / 2 ^ i = 2 * (E / 2 ^ (i + 1)) + E / 2 ^ i % 2 := by
  rw [Nat.pow_succ, ← Nat.div_div_eq_div_mul]
  omega
theorem np_one {n E j : Nat} (hj : j ≤ 255) (h : E / 2 ^ (255 - j) % 2 = 1) : np n E j * np n E j % pP * n % pP = np n E (j + 1) := by
  unfold np
  have e := div_bit E (255 - j)
  rw [h, show 255 - j + 1 = 256 - j by omega] at e
  rw [show 256 - (j + 1) = 255 - j by omega, e]
  generalize E / 2 ^ (256 - j) = b
  rw [Nat.pow_succ, Nat.two_mul, Nat.pow_add, ← Nat.mul_mod, Nat.mod_mul_mod]
theorem np_none {n E j : Nat} (hj : j ≤ 255) (h : ¬ E / 2 ^ (255 - j) % 2 = 1) : np n E j * np n E j % pP = np n E (j + 1) := by
  unfold np
  have e := div_bit E (255 - j)
  rw [show E / 2 ^ (255 - j) % 2 = 0 by omega, show 255 - j + 1 = 256 - j by omega] at e
  rw [show 256 - (j + 1) = 255 - j by omega, e]
  generalize E / 2 ^ (256 - j) = b
  rw [Nat.add_zero, Nat.two_mul, Nat.pow_add, ← Nat.mul_mod]
theorem np_all (n E : Nat) : np n E 256 = n ^ E % pP := by
  unfold np
  rw [Nat.sub_self, Nat.pow_zero, Nat.div_one]
theorem Tw.pows {x : Nat → BitVec 64} {n : Nat} (e : Nat → BitVec 8) (h : Tw x n) : ∀ j, j ≤ 256 → Tw (powG x e j) (np n (natB e 32) j)
  | 0, _ => by rw [np_zero (natB_lt e 32)]; exact Tw.small 1#64
  | j + 1, hj => by
    have ih := Tw.pows e h j (by omega)
    by_cases hb : e ((255 - j) / 8) >>> ((255 - j) % 8) &&& 1#8 = 1#8
    · rw [powG_one hb, ← np_one (by omega) ((bit_is e _ (by omega)).1 hb)]
      exact (ih.mul ih).mul h
    · rw [powG_none hb, ← np_none (by omega) (fun q => hb ((bit_is e _ (by omega)).2 q))]
      exact ih.mul ih
def pw (n E : Nat) : Nat := n ^ E % pP
theorem pw_all (n E : Nat) : np n E 256 = pw n E := np_all n E
theorem Tw.pow {x : Nat → BitVec 64} {n : Nat} (e : Nat → BitVec 8) (h : Tw x n) : Tw (powG x e 256) (pw n (natB e 32)) := by
  have := h.pows e 256 (by decide)
  rwa [pw_all] at this
theorem Tw.powE {x : Nat → BitVec 64} {n E : Nat} {e : Nat → BitVec 8} (h : Tw x n) (hE : natB e 32 = E) : Tw (powG x e 256) (pw n E) := hE ▸ h.pow e
theorem pw_lt (n E : Nat) : pw n E < pP := Nat.mod_lt _ pP_pos
attribute [irreducible] pw np

/-! ### exponents -/
def expo (l h : BitVec 8) : Nat → BitVec 8 := upd (upd (fun _ => 255#8) 0 l) 31 h
def eI : Nat := pP - 2
def eS : Nat := (pP + 3) / 8
def eQ : Nat := (pP - 1) / 4
theorem expo_I : natB (expo 235#8 127#8) 32 = eI := by decide +kernel
theorem expo_S : natB (expo 254#8 15#8) 32 = eS := by decide +kernel
theorem expo_Q : natB (expo 251#8 31#8) 32 = eQ := by decide +kernel
theorem ones_I : (pP - 2) / 2 ^ 0 = eI := by decide +kernel
theorem ones_Q : (pP - 1) / 2 ^ 2 = eQ := by decide +kernel
theorem ones_S : natB (upd (byt ((pP - 1) / 2 ^ 3)) 0 (byt ((pP - 1) / 2 ^ 3) 0 + 1#8)) 32 = eS := by decide +kernel
theorem lt_byt {n : Nat} (h : n < 2 ^ 256) : natB (byt n) 32 = n := by rw [natB_byt]; exact Nat.mod_eq_of_lt h
theorem eI_lt : eI < 2 ^ 256 := by decide +kernel
theorem eQ_lt : eQ < 2 ^ 256 := by decide +kernel
theorem natB_I : natB (byt eI) 32 = eI := lt_byt eI_lt
theorem natB_Q : natB (byt eQ) 32 = eQ := lt_byt eQ_lt
attribute [irreducible] eI eS eQ
/-- A row of bytes, halved from below. -/
def mixH (n k : Nat) : Nat → BitVec 8 := fun i => if i < k then byt (n / 2) i else byt n i
theorem mixH_zero (n : Nat) : mixH n 0 = byt n := by funext i; exact if_neg (Nat.not_lt_zero i)
theorem mixH_at (n k : Nat) : mixH n k k = byt n k := if_neg (Nat.lt_irrefl k)
theorem mixH_next (n k : Nat) : mixH n k (k + 1) = byt n (k + 1) := if_neg (by omega)
theorem byt_get (n k i : Nat) : (byt n k).getLsbD i = (decide (i < 8) && n.testBit (8 * k + i)) := by
  unfold byt
  rw [BitVec.getLsbD_ofNat, Nat.testBit_div_two_pow, Nat.add_comm i]
theorem half_byt (n k : Nat) : byt n k >>> 1 ||| (byt n (k + 1) &&& 1#8) <<< 7 = byt (n / 2) k := by
  refine BitVec.eq_of_getLsbD_eq fun i hi => ?_
  rw [BitVec.getLsbD_or, BitVec.getLsbD_ushiftRight, BitVec.getLsbD_shiftLeft, BitVec.getLsbD_and, byt_get, byt_get, byt_get]
  have e2 : n / 2 = n / 2 ^ 1 := by rw [Nat.pow_one]
  rw [e2, Nat.testBit_div_two_pow]
  have one : ∀ j, (1#8 : BitVec 8).getLsbD j = decide (j = 0) := by
    intro j
    cases j with
    | zero => rfl
    | succ j => rw [BitVec.getLsbD_ofNat, Nat.testBit_succ, show 1 / 2 = 0 from rfl, Nat.zero_testBit]; simp
  rw [one]
  rcases Nat.lt_or_ge i 7 with h | h
  · simp [h, hi, show 1 + i < 8 by omega, show 8 * k + (1 + i) = 8 * k + i + 1 by omega]
  · obtain rfl : i = 7 := by omega
    simp [show 8 * (k + 1) = 8 * k + 7 + 1 by omega]
theorem half_last {n : Nat} (h : n < 2 ^ 256) : byt n 31 >>> 1 ||| 0#8 = byt (n / 2) 31 := by
  rw [← half_byt n 31]
  congr 1
  have : byt n (31 + 1) = 0#8 := by
    unfold byt
    rw [Nat.div_eq_of_lt (by exact h)]
  rw [this]; rfl
theorem mixH_step (n k : Nat) : upd (mixH n k) k (byt (n / 2) k) = mixH n (k + 1) := by
  funext i
  unfold upd mixH
  by_cases h : i = k
  · subst h; rw [if_pos rfl, if_pos (by omega)]
  · rw [if_neg h]
    by_cases h2 : i < k
    · rw [if_pos h2, if_pos (by omega)]
    · rw [if_neg h2, if_neg (by omega)]
theorem cB_mixH (n : Nat) : cB 32 (mixH n 32) = cB 32 (byt (n / 2)) := cB_congr fun _ hi => if_pos hi
theorem ones_start {a : Nat} (h : a ≤ 237) : cB 32 (upd (upd (fil 0 (fun _ => 255#8) 32) 31 127#8) 0 (BitVec.ofNat 8 (237 - a))) = cB 32 (byt (pP - a)) := by
  have e1 : cB 32 (upd (upd (fil 0 (fun _ => 255#8) 32) 31 127#8) 0 (BitVec.ofNat 8 (237 - a))) = cB 32 (edge (237 - a)) := cB_congr fun i hi => by
    unfold upd edge
    by_cases h0 : i = 0
    · subst h0; rfl
    · rw [if_neg h0]
      by_cases h1 : i = 31
      · subst h1; rfl
      · rw [if_neg h1, fil_get, if_pos hi]
        unfold upd
        rw [if_neg h1, if_neg h0]
  rw [e1, cB_byt]
  have := edge_nat (237 - a) (by omega)
  rw [show natB (edge (237 - a)) 32 = pP - a by omega]
theorem half_lt {n : Nat} (h : n < 2 ^ 256) : n / 2 < 2 ^ 256 := by omega
theorem ones_lt (a h : Nat) : (pP - a) / 2 ^ h < 2 ^ 256 := Nat.lt_of_le_of_lt (Nat.div_le_self _ _) (Nat.lt_of_le_of_lt (Nat.sub_le _ _) p_lt256)
theorem ones_next (a h : Nat) : (pP - a) / 2 ^ h / 2 = (pP - a) / 2 ^ (h + 1) := by rw [Nat.pow_succ, Nat.div_div_eq_div_mul]

/-! ### roots -/
def invX (x : Nat → BitVec 64) : Nat → BitVec 64 := powG x (expo 235#8 127#8) 256
abbrev r0X (x : Nat → BitVec 64) : Nat → BitVec 64 := powG x (expo 254#8 15#8) 256
abbrev iX : Nat → BitVec 64 := powG (limb51 (2#64).toNat) (expo 251#8 31#8) 256
def r1X (x : Nat → BitVec 64) : Nat → BitVec 64 := if val (feMul (r0X x) (r0X x)) % pP = val x % pP then r0X x else feMul (r0X x) iX
def okX (x : Nat → BitVec 64) : Bool := decide (val (feMul (r1X x) (r1X x)) % pP = val x % pP)
def outX (x : Nat → BitVec 64) : Nat → BitVec 64 := if val (feMul (r1X x) (r1X x)) % pP = val x % pP then (if val (r1X x) % pP % 2 = 1 then feSub (fun _ => 0) (r1X x) else r1X x) else fun _ => 0
theorem r1X_yes {x : Nat → BitVec 64} (h : val (feMul (r0X x) (r0X x)) % pP = val x % pP) : r1X x = r0X x := if_pos h
theorem r1X_no {x : Nat → BitVec 64} (h : ¬ val (feMul (r0X x) (r0X x)) % pP = val x % pP) : r1X x = feMul (r0X x) iX := if_neg h
theorem outX_none {x : Nat → BitVec 64} (h : ¬ val (feMul (r1X x) (r1X x)) % pP = val x % pP) : outX x = (fun _ => 0) ∧ okX x = false := ⟨if_neg h, decide_eq_false h⟩
theorem outX_odd {x : Nat → BitVec 64} (h : val (feMul (r1X x) (r1X x)) % pP = val x % pP) (h2 : val (r1X x) % pP % 2 = 1) : outX x = feSub (fun _ => 0) (r1X x) ∧ okX x = true := ⟨by unfold outX; rw [if_pos h, if_pos h2], decide_eq_true h⟩
theorem outX_even {x : Nat → BitVec 64} (h : val (feMul (r1X x) (r1X x)) % pP = val x % pP) (h2 : ¬ val (r1X x) % pP % 2 = 1) : outX x = r1X x ∧ okX x = true := ⟨by unfold outX; rw [if_pos h, if_neg h2], decide_eq_true h⟩
def ratioX (u v : Nat → BitVec 64) : (Nat → BitVec 64) × Bool := if val v % pP = 0 then (fun _ => 0, decide (val u % pP = 0)) else (outX (feMul u (invX v)), okX (feMul u (invX v)))

def invN (n : Nat) : Nat := pw n eI
abbrev r0N (n : Nat) : Nat := pw n eS
def iN : Nat := pw (2#64).toNat eQ
theorem iN_eq : iN = pw (2#64).toNat eQ := rfl
def r1N (n : Nat) : Nat := if r0N n * r0N n % pP = n then r0N n else r0N n * iN % pP
def okN (n : Nat) : Bool := decide (r1N n * r1N n % pP = n)
def outN (n : Nat) : Nat := if r1N n * r1N n % pP = n then (if r1N n % 2 = 1 then (0 + pP - r1N n) % pP else r1N n) else 0
theorem r1N_yes {n : Nat} (h : r0N n * r0N n % pP = n) : r1N n = r0N n := if_pos h
theorem r1N_no {n : Nat} (h : ¬ r0N n * r0N n % pP = n) : r1N n = r0N n * iN % pP := if_neg h
theorem outN_none {n : Nat} (h : ¬ r1N n * r1N n % pP = n) : outN n = 0 ∧ okN n = false := ⟨if_neg h, decide_eq_false h⟩
theorem outN_odd {n : Nat} (h : r1N n * r1N n % pP = n) (h2 : r1N n % 2 = 1) : outN n = (0 + pP - r1N n) % pP ∧ okN n = true := ⟨by unfold outN; rw [if_pos h, if_pos h2], decide_eq_true h⟩
theorem outN_even {n : Nat} (h : r1N n * r1N n % pP = n) (h2 : ¬ r1N n % 2 = 1) : outN n = r1N n ∧ okN n = true := ⟨by unfold outN; rw [if_pos h, if_neg h2], decide_eq_true h⟩
def ratioN (u v : Nat) : Nat × Bool := if v = 0 then (0, decide (u = 0)) else (outN (u * invN v % pP), okN (u * invN v % pP))
theorem r0N_lt (n : Nat) : r0N n < pP := pw_lt _ _
theorem r1N_lt (n : Nat) : r1N n < pP := by
  unfold r1N; split
  · exact r0N_lt n
  · exact Nat.mod_lt _ pP_pos
theorem outN_lt (n : Nat) : outN n < pP := by
  unfold outN; split
  · split
    · exact Nat.mod_lt _ pP_pos
    · exact r1N_lt n
  · exact pP_pos
theorem invN_lt (n : Nat) : invN n < pP := pw_lt _ _

theorem Tw.inv {x : Nat → BitVec 64} {n : Nat} (h : Tw x n) : Tw (invX x) (invN n) := h.powE expo_I
theorem Tw.r0 {x : Nat → BitVec 64} {n : Nat} (h : Tw x n) : Tw (r0X x) (r0N n) := h.powE expo_S
theorem Tw.im : Tw iX iN := by rw [iN_eq]; exact (Tw.small 2#64).powE expo_Q
theorem Tw.same {x y : Nat → BitVec 64} {m n : Nat} (hx : Tw x m) (hy : Tw y n) : (val x % pP = val y % pP) = (m = n) := by rw [hx.2.2, hy.2.2]
theorem Tw.r1 {x : Nat → BitVec 64} {n : Nat} (h : Tw x n) : Tw (r1X x) (r1N n) := by
  unfold r1X r1N
  simp only [Tw.same (h.r0.mul h.r0) h]
  by_cases hc : r0N n * r0N n % pP = n
  · rw [if_pos hc, if_pos hc]; exact h.r0
  · rw [if_neg hc, if_neg hc]; exact h.r0.mul Tw.im
theorem Tw.okk {x : Nat → BitVec 64} {n : Nat} (h : Tw x n) : okX x = okN n := by
  unfold okX okN
  simp only [Tw.same (h.r1.mul h.r1) h]
theorem Tw.out {x : Nat → BitVec 64} {n : Nat} (h : Tw x n) : Tw (outX x) (outN n) := by
  unfold outX outN
  simp only [Tw.same (h.r1.mul h.r1) h, h.r1.2.2]
  by_cases hc : r1N n * r1N n % pP = n
  · rw [if_pos hc, if_pos hc]
    by_cases hd : r1N n % 2 = 1
    · rw [if_pos hd, if_pos hd]; exact h.r1.neg
    · rw [if_neg hd, if_neg hd]; exact h.r1
  · rw [if_neg hc, if_neg hc]; exact Tw.zero
theorem Tw.ratio {x y : Nat → BitVec 64} {m n : Nat} (hx : Tw x m) (hy : Tw y n) : Tw (ratioX x y).1 (ratioN m n).1 ∧ (ratioX x y).2 = (ratioN m n).2 := by
  unfold ratioX ratioN
  simp only [hy.2.2, hx.2.2]
  by_cases hc : n = 0
  · rw [if_pos hc, if_pos hc]; exact ⟨Tw.zero, rfl⟩
  · rw [if_neg hc, if_neg hc]; exact ⟨(hx.mul hy.inv).out, (hx.mul hy.inv).okk⟩
theorem ratioX_yes {u v : Nat → BitVec 64} (h : val v % pP = 0) : ratioX u v = (fun _ => 0, decide (val u % pP = 0)) := if_pos h
theorem ratioX_no {u v : Nat → BitVec 64} (h : ¬ val v % pP = 0) : ratioX u v = (outX (feMul u (invX v)), okX (feMul u (invX v))) := if_neg h
theorem ratioN_yes {u v : Nat} (h : v = 0) : ratioN u v = (0, decide (u = 0)) := if_pos h
theorem ratioN_no {u v : Nat} (h : ¬ v = 0) : ratioN u v = (outN (u * invN v % pP), okN (u * invN v % pP)) := if_neg h
theorem Tw.self {x : Nat → BitVec 64} (h : Ok x) : Tw x (val x % pP) := ⟨h, Nat.mod_lt _ pP_pos, rfl⟩
theorem ones_S' (n : Nat) : pw n (natB (upd (byt ((pP - 1) / 2 ^ 3)) 0 (byt ((pP - 1) / 2 ^ 3) 0 + 1#8)) 32) = r0N n := by rw [ones_S]
theorem ones_I' (n : Nat) : pw n (natB (byt ((pP - 2) / 2 ^ 0)) 32) = invN n := by rw [ones_I, natB_I]; rfl
theorem ones_Q' : pw (2#64).toNat (natB (byt ((pP - 1) / 2 ^ 2)) 32) = iN := by rw [ones_Q, natB_Q, iN_eq]
theorem dig_eqz {n : Nat} (h : n < pP) : eqR 16 (dig n) (fun _ => 0) = decide (n = 0) := by rw [← dig_zero, dig_eqR h pP_pos]
/-! a bit, asked by any number -/
def bitZ (f : Nat → BitVec 8) (i : Int) : Nat := if 0 ≤ i ∧ i < 256 then natB f 32 / 2 ^ i.toNat % 2 else 0
theorem bitZ_out {f : Nat → BitVec 8} {i : Int} (h : i < 0 ∨ 256 ≤ i) : bitZ f i = 0 := if_neg (by omega)
theorem bitZ_at (f : Nat → BitVec 8) (p : Nat) (h : p < 256) : bitZ f (p : Int) = natB f 32 / 2 ^ p % 2 := by
  unfold bitZ
  rw [if_pos (by omega), Int.toNat_natCast]
theorem and1 (q : Nat) : q &&& 1 = q % 2 := Nat.and_two_pow_sub_one_eq_mod q 1
theorem rbit_in (f : Nat → BitVec 8) (p : Nat) (h : p < 256) : (f (p / 8) >>> (p % 8)).toNat % 2 = bitZ f (p : Int) := by
  have e := congrArg BitVec.toNat (byt_bit (natB f 32) p)
  rw [byt_natB f 32 (p / 8) (by omega), BitVec.toNat_and, show (1#8 : BitVec 8).toNat = 1 from rfl, and1, BitVec.toNat_ofNat] at e
  rw [bitZ_at f p h, e]
  omega
/-- a number's lowest bit -/
theorem b_andN1 (t : TypeId) (x : Nat) (h : x < 9223372036854775808) : binOp .and t (N x) (N 1) = pure (N (x % 2)) := by
  have e : ∀ y : Nat, y < 9223372036854775808 → N y = I (BitVec.ofNat 64 y) := fun y hy => by
    unfold N I
    have h1 : (BitVec.ofNat 64 y).toNat = y := by rw [BitVec.toNat_ofNat]; omega
    rw [toInt_of_lt _ (by rw [h1]; exact hy), h1]
  rw [e x h, e 1 (by decide), b_andI, e (x % 2) (by omega)]
  congr 2
  apply BitVec.eq_of_toNat_eq
  rw [BitVec.toNat_and, BitVec.toNat_ofNat, BitVec.toNat_ofNat, BitVec.toNat_ofNat]
  have h1 : (1 : Nat) % 2 ^ 64 = 1 := rfl
  rw [h1, and1]
  omega
end Go.Sym
