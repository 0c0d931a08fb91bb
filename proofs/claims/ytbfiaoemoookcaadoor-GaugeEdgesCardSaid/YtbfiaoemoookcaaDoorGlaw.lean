/-
  The order of words: what the laws of chapter 30 ask of it; known values. No program is in sight here.
-/
import Derived.Test.YtbfiaoemoookcaaDoorGwalk
namespace Go.Sym
open Go Ieee

theorem ord_neg (x y : BitVec 64) : ord x y = -ord y x := by unfold ord; split <;> split <;> omega
theorem ord_self (x : BitVec 64) : ord x x = 0 := by unfold ord; split <;> omega
theorem ord_le (x y : BitVec 64) : ord x y ≤ 0 ↔ nk x ≤ nk y := by unfold ord; split <;> (try split) <;> omega
theorem ord_pos (x y : BitVec 64) : 0 < ord x y ↔ nk y < nk x := by unfold ord; split <;> (try split) <;> omega
theorem ord_neg' (x y : BitVec 64) : ord x y < 0 ↔ nk x < nk y := by unfold ord; split <;> (try split) <;> omega
theorem ord_zero (x y : BitVec 64) : ord x y = 0 ↔ nk x = nk y := by unfold ord; split <;> (try split) <;> omega
theorem ord_bnd (x y : BitVec 64) : -1 ≤ ord x y ∧ ord x y ≤ 1 := by unfold ord; split <;> (try split) <;> omega
theorem ord_trans {x y z : BitVec 64} (h : ord x y ≤ 0) (h' : ord y z ≤ 0) : decide (0 < ord x z) = false := by
  rw [ord_le] at h h'
  refine decide_eq_false fun q => ?_
  rw [ord_pos] at q
  omega
theorem nk_num {x : BitVec 64} (h : nanB x = false) : nk x = if sgn x then -(rung x : Int) - 1 else rung x := by unfold nk; rw [h]; rfl
theorem ne_ord {x y : BitVec 64} (hx : nanB x = false) (hy : nanB y = false) (h : (fo x y == some .eq) = false) : decide (ord x y = 0) = false := by
  refine decide_eq_false fun q => ?_
  rw [ord_zero, nk_num hx, nk_num hy] at q
  have : key x = key y := by
    unfold key sg
    cases hs : sgn x <;> cases ht : sgn y <;> rw [hs, ht] at q <;> simp at q ⊢ <;> omega
  rw [eqk_fo hx hy this] at h; cases h
theorem eq_ord {x y : BitVec 64} (h : (fo x y == some .eq) = true) (h0 : (fo x 0#64 != some .eq) = true) : decide (ord x y = 0) = true := by
  obtain ⟨hx, hy, hk⟩ := fo_eqk h
  have hr : rung x ≠ 0 := by
    intro e
    rw [fo_zero x hx, cmp_int] at h0
    have : key x = 0 := by unfold key sg; rw [e]; split <;> rfl
    rw [this] at h0
    exact absurd h0 (by decide)
  refine decide_eq_true ?_
  rw [ord_zero, nk_num hx, nk_num hy]
  unfold key sg at hk
  cases hs : sgn x <;> cases ht : sgn y <;> rw [hs, ht] at hk <;> simp at hk ⊢ <;> omega
theorem zero_ord {x y r s : BitVec 64} (h : (fo x y == some .eq) = true) (h0 : (fo x 0#64 != some .eq) = false) (hr : FR .quo 4607182418800017408#64 x r) (hs : FR .quo 4607182418800017408#64 y s) : decide (ord x y = 0) = (fo r s == some .eq) := by
  obtain ⟨hx, hy, hk⟩ := fo_eqk h
  have h1 : (fo x 0#64 == some .eq) = true := by
    cases e : (fo x 0#64 == some .eq) with
    | true => rfl
    | false => have : (fo x 0#64 != some .eq) = !(fo x 0#64 == some .eq) := rfl; rw [this, e] at h0; cases h0
  have rx := (eq_zero h1).2
  have ry : rung y = 0 := by
    unfold key sg at hk
    rw [rx] at hk
    cases h2 : sgn x <;> cases h3 : sgn y <;> rw [h2, h3] at hk <;> simp at hk <;> omega
  obtain ⟨a1, a2, a3⟩ := one_by_zero rx hr
  obtain ⟨b1, b2, b3⟩ := one_by_zero ry hs
  rw [fo_key a1 b1, cmp_int]
  have hi : infR = 9218868437227405312 := rfl
  have e : (ord x y = 0) ↔ sgn x = sgn y := by
    rw [ord_zero, nk_num hx, nk_num hy, rx, ry]
    cases sgn x <;> cases sgn y <;> simp
  have e2 : decide (ord x y = 0) = decide (sgn x = sgn y) := decide_eq_decide.2 e
  rw [e2]
  unfold key sg
  rw [a2, b2, a3, b3, hi]
  cases sgn x <;> cases sgn y <;> decide
theorem lt_ord {x y : BitVec 64} (hx : nanB x = false) (hy : nanB y = false) (h : (fo x y == some .eq) = false) : decide (ord x y < 0) = (fo x y == some .lt) := by
  cases e : (fo x y == some .lt) with
  | true => exact decide_eq_true ((ord_neg' x y).2 (nk_key hx hy (fo_lt e).2.2))
  | false =>
    cases e2 : (fo x y == some .gt) with
    | true =>
      refine decide_eq_false fun q => ?_
      have := nk_key hy hx (fo_gt e2).2.2
      rw [ord_neg'] at q
      omega
    | false => exact (no_tie hx hy e e2 h).elim
theorem nan_ord {x y : BitVec 64} (hx : nanB x = true) (hy : nanB y = false) : decide (ord x y = 0) = false := by
  refine decide_eq_false fun q => ?_
  rw [ord_zero, nk_nan hx] at q
  have := nk_gt hy
  omega
theorem ord_nan {x y : BitVec 64} (hx : nanB x = false) (hy : nanB y = true) : decide (ord x y = 0) = false := by
  refine decide_eq_false fun q => ?_
  rw [ord_zero, nk_nan hy] at q
  have := nk_gt hx
  omega
theorem nan_ord2 {x y : BitVec 64} (hx : nanB x = true) (hy : nanB y = true) : decide (ord x y = 0) = true := decide_eq_true ((ord_zero x y).2 (by rw [nk_nan hx, nk_nan hy]))
theorem rate_m : floatBits .quo .f64 (fi 0).toNat (fi (-5)).toNat = some (9223372036854775808#64).toNat := by decide +kernel
theorem shw_m : shw 9223372036854775808#64 = [45, 48, 46, 48, 48, 48] := by decide +kernel
theorem shw_15 : shw 4609434218613702656#64 = [49, 46, 53, 48, 48] := by decide +kernel
theorem ord_12 : (ord 4607182418800017408#64 4611686018427387904#64 = -1) := by decide +kernel
end Go.Sym
