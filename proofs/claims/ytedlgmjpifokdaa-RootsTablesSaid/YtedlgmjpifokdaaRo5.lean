/-
  The first primes. No program is in sight here.
-/
import Derived.Test.YtedlgmjpifokdaaRo2
namespace Go.Sym
open Go

/-! ### primes -/
def PT : List Nat := [2, 3, 5, 7, 11, 13, 17, 19, 23, 29, 31, 37, 41, 43, 47, 53, 59, 61, 67, 71, 73, 79, 83, 89, 97, 101, 103, 107, 109, 113, 127, 131, 137, 139, 149, 151, 157, 163, 167, 173, 179, 181, 191, 193, 197, 199, 211, 223, 227, 229, 233, 239, 241, 251, 257, 263, 269, 271, 277, 281, 283, 293, 307, 311, 313, 317, 331, 337, 347, 349, 353, 359, 367, 373, 379, 383, 389, 397, 401, 409, 419, 421, 431, 433, 439, 443, 449, 457, 461, 463, 467, 479, 487, 491, 499, 503, 509, 521, 523, 541]
def cnt (p : Nat) : Nat := (PT.filter fun q => q < p).length
def pvN (i : Nat) : Nat := PT.getD i 0
def pv (i : Nat) : BitVec 64 := BitVec.ofNat 64 (pvN i)
def nd (p d : Nat) : Bool := (List.range d).all fun e => decide (e < 2) || !decide (p % e = 0)
def chk (p : Nat) : Bool := (List.range (cnt p)).all fun i => !decide (p % pvN i = 0)
def okP (p : Nat) : Bool := (nd p p == chk p) && (if chk p then pvN (cnt p) == p && cnt (p + 1) == cnt p + 1 else cnt (p + 1) == cnt p)
theorem okP_all : ((List.range 542).all fun p => decide (p < 2) || okP p) = true := by decide +kernel
theorem okP_at {p : Nat} (h2 : 2 ≤ p) (h : p < 542) : okP p = true := by
  have := List.all_eq_true.1 okP_all p (List.mem_range.2 h)
  simpa [show ¬ p < 2 by omega] using this
theorem nd_chk {p : Nat} (h2 : 2 ≤ p) (h : p < 542) : nd p p = chk p := by
  have := okP_at h2 h
  unfold okP at this
  simp only [Bool.and_eq_true, beq_iff_eq] at this
  exact this.1
theorem prime_yes {p : Nat} (h2 : 2 ≤ p) (h : p < 542) (hc : chk p = true) : pvN (cnt p) = p ∧ cnt (p + 1) = cnt p + 1 := by
  have := okP_at h2 h
  unfold okP at this
  simp only [hc, if_true, Bool.and_eq_true, beq_iff_eq] at this
  exact this.2
theorem prime_no {p : Nat} (h2 : 2 ≤ p) (h : p < 542) (hc : chk p = false) : cnt (p + 1) = cnt p := by
  have := okP_at h2 h
  unfold okP at this
  simp only [hc, Bool.false_eq_true, if_false, Bool.and_eq_true, beq_iff_eq] at this
  exact this.2
theorem cnt_all : cnt 542 = 100 := by decide +kernel
theorem cnt_two : cnt 2 = 0 := by decide +kernel
theorem cnt_le (p : Nat) : cnt p ≤ 100 := List.length_filter_le _ _
theorem pvN_ok : ((List.range 100).all fun i => decide (2 ≤ pvN i) && decide (pvN i < 1000)) = true := by decide +kernel
theorem pvN_at {i : Nat} (h : i < 100) : 2 ≤ pvN i ∧ pvN i < 1000 := by
  have := List.all_eq_true.1 pvN_ok i (List.mem_range.2 h)
  simpa using this
theorem pv_toNat {i : Nat} (h : i < 100) : (pv i).toNat = pvN i := by
  have := pvN_at h
  unfold pv
  rw [BitVec.toNat_ofNat, Nat.mod_eq_of_lt (by omega)]
theorem pv_ne {i : Nat} (h : i < 100) : pv i ≠ 0#64 := fun e => by
  have := pvN_at h
  have h2 := pv_toNat h
  rw [e] at h2
  simp at h2
  omega
theorem mod_pv {p i : Nat} (hp : p < 1000) (h : i < 100) : (BitVec.ofNat 64 p % pv i = 0#64) ↔ p % pvN i = 0 := by
  rw [← BitVec.toNat_inj, BitVec.toNat_umod, pv_toNat h, BitVec.toNat_ofNat, Nat.mod_eq_of_lt (a := p) (by omega)]
  rfl
theorem mod_ofNat {p d : Nat} (hp : p < 1000) (hd : d < 1000) : (BitVec.ofNat 64 p % BitVec.ofNat 64 d = 0#64) ↔ p % d = 0 := by
  rw [← BitVec.toNat_inj, BitVec.toNat_umod, BitVec.toNat_ofNat, BitVec.toNat_ofNat, Nat.mod_eq_of_lt (a := p) (by omega), Nat.mod_eq_of_lt (a := d) (by omega)]
  rfl
theorem ofNat_ne {d : Nat} (h2 : 2 ≤ d) (h : d < 1000) : BitVec.ofNat 64 d ≠ 0#64 := fun e => by
  have := congrArg BitVec.toNat e
  rw [BitVec.toNat_ofNat, Nat.mod_eq_of_lt (by omega)] at this
  simp at this
  omega
theorem nd_two (p : Nat) : nd p 2 = true := by simp [nd, List.range_succ]
theorem nd_succ {p d : Nat} (h2 : 2 ≤ d) (hp : p < 1000) (hd : d < 1000) : nd p (d + 1) = (nd p d && !decide (BitVec.ofNat 64 p % BitVec.ofNat 64 d = 0#64)) := by
  unfold nd
  rw [List.range_succ, List.all_append]
  simp [show ¬ d < 2 by omega, mod_ofNat hp hd]
theorem chk_yes {p : Nat} (h : ∀ i, i < cnt p → ¬ p % pvN i = 0) : chk p = true := by
  unfold chk
  rw [List.all_eq_true]
  intro i hi
  simpa using h i (List.mem_range.1 hi)
theorem chk_no {p i : Nat} (h : i < cnt p) (h0 : p % pvN i = 0) : chk p = false := by
  cases hq : chk p
  · rfl
  · have := List.all_eq_true.1 hq i (List.mem_range.2 h)
    simp [h0] at this
def prC (n : Nat) : List Value := cells n fun i => U (pv i)
theorem prC_next {p : Nat} (h2 : 2 ≤ p) (h : p < 542) (hc : chk p = true) : prC (cnt p) ++ [U (BitVec.ofNat 64 p)] = prC (cnt (p + 1)) := by
  obtain ⟨h3, h4⟩ := prime_yes h2 h hc
  rw [h4]
  unfold prC cells
  rw [List.range_succ, List.map_append]
  simp [pv, h3]
def pn (n : Int) : Nat := (max 0 (min n 100)).toNat
def mn (n : Int) : Int := if n > 100 then 100 else n
theorem pn_le (n : Int) : pn n ≤ 100 := by unfold pn; omega
theorem pn_max (n : Int) : (if (if 100 < n then 100 else n) > 0 then (if 100 < n then 100 else n) else 0) = ((pn n : Nat) : Int) := by unfold pn; split <;> split <;> omega
theorem mn_pn (n : Int) (c : Nat) : (c : Int) < mn n ↔ c < pn n := by unfold mn pn; split <;> omega
theorem u_succ (p : Nat) : BitVec.ofNat 64 p + 1#64 = BitVec.ofNat 64 (p + 1) := (BitVec.ofNat_add _ _).symm
end Go.Sym
