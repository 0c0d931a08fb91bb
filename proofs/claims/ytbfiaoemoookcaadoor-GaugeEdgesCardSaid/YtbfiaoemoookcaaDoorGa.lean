/-
  Words of 64 bits as floats: their order is the order of whole numbers. No program is in sight here.
-/
import Derived.Test.YtbfiaoemoookcaaDoorSymFloat
namespace Go.Sym
open Go Ieee

/-- What a rung is worth, in units of the least number. -/
def vr (r : Nat) : Nat := if r < 4503599627370496 then r else (4503599627370496 + r % 4503599627370496) * 2 ^ (r / 4503599627370496 - 1)
theorem vr_step (r : Nat) : vr r < vr (r + 1) := by
  unfold vr
  by_cases h1 : r + 1 < 4503599627370496
  · rw [if_pos (by omega), if_pos h1]; omega
  · rw [if_neg h1]
    by_cases h2 : r < 4503599627370496
    · have e : r + 1 = 4503599627370496 := by omega
      rw [if_pos h2, e]
      show r < (4503599627370496 + 4503599627370496 % 4503599627370496) * 2 ^ (4503599627370496 / 4503599627370496 - 1)
      rw [Nat.mod_self, Nat.div_self (by decide)]
      omega
    · rw [if_neg h2]
      by_cases h3 : (r + 1) % 4503599627370496 = 0
      · have e1 : r % 4503599627370496 = 4503599627370496 - 1 := by omega
        have e2 : (r + 1) / 4503599627370496 - 1 = (r / 4503599627370496 - 1) + 1 := by omega
        rw [h3, e1, e2, Nat.pow_succ]
        have hp : 0 < 2 ^ (r / 4503599627370496 - 1) := Nat.two_pow_pos _
        generalize 2 ^ (r / 4503599627370496 - 1) = p at hp ⊢
        clear e1 e2 h1 h2 h3
        omega
      · have e1 : (r + 1) % 4503599627370496 = r % 4503599627370496 + 1 := by omega
        have e2 : (r + 1) / 4503599627370496 - 1 = r / 4503599627370496 - 1 := by omega
        rw [e1, e2]
        exact Nat.mul_lt_mul_of_pos_right (by omega) (Nat.two_pow_pos _)
theorem vr_lt {r r' : Nat} (h : r < r') : vr r < vr r' := by
  induction r' with
  | zero => omega
  | succ k ih =>
    by_cases e : r = k
    · subst e; exact vr_step r
    · exact Nat.lt_trans (ih (by omega)) (vr_step k)
theorem vr_lt_iff (r r' : Nat) : vr r < vr r' ↔ r < r' := ⟨fun h => by
  rcases Nat.lt_trichotomy r r' with q | q | q
  · exact q
  · subst q; omega
  · have := vr_lt q; omega, vr_lt⟩
theorem vr_zero : vr 0 = 0 := rfl
/-- The rung of a word, its sign, and both as one whole number. -/
def rung (b : BitVec 64) : Nat := b.toNat % 9223372036854775808
def sgn (b : BitVec 64) : Bool := b.toNat / 9223372036854775808 % 2 == 1
def sg (s : Bool) (v : Nat) : Int := if s then -(v : Int) else v
def key (b : BitVec 64) : Int := sg (sgn b) (rung b)
def infR : Nat := 9218868437227405312
theorem read_word (b : BitVec 64) : double.read b.toNat = if rung b < 4503599627370496 then .number (sgn b) (rung b) double.leastPlace else if rung b < infR then .number (sgn b) (4503599627370496 + rung b % 4503599627370496) (double.leastPlace + (rung b / 4503599627370496 - 1 : Nat)) else if rung b = infR then .infinity (sgn b) else .nan (sgn b) (rung b - infR) := rfl
theorem nanB_iff (b : BitVec 64) : nanB b = true ↔ infR < rung b := by
  unfold nanB nanN
  rw [read_word]
  by_cases h1 : rung b < 4503599627370496
  · rw [if_pos h1]; simp [Datum.isNaN]; unfold infR; omega
  · rw [if_neg h1]
    by_cases h2 : rung b < infR
    · rw [if_pos h2]; simp [Datum.isNaN]; omega
    · rw [if_neg h2]
      by_cases h3 : rung b = infR
      · rw [if_pos h3]; simp [Datum.isNaN]; omega
      · rw [if_neg h3]; simp [Datum.isNaN]; omega
theorem cmp_int (a b : Int) : compare a b = if a < b then .lt else if a = b then .eq else .gt := rfl
theorem cmp_sg (s t : Bool) {X Y r r' : Nat} (h1 : X < Y ↔ r < r') (h2 : Y < X ↔ r' < r) (hx : X = 0 ↔ r = 0) (hy : Y = 0 ↔ r' = 0) : compare (sg s X) (sg t Y) = compare (sg s r) (sg t r') := by
  rw [cmp_int, cmp_int]
  have e1 : sg s X < sg t Y ↔ sg s r < sg t r' := by cases s <;> cases t <;> simp only [sg] <;> simp <;> omega
  have e2 : sg s X = sg t Y ↔ sg s r = sg t r' := by cases s <;> cases t <;> simp only [sg] <;> simp <;> omega
  simp only [e1, e2]
/-- A word that is a number of the format: magnitude and place. -/
theorem read_num {b : BitVec 64} (h : rung b < infR) : ∃ m p : Nat, double.read b.toNat = .number (sgn b) m (double.leastPlace + (p : Int)) ∧ m * 2 ^ p = vr (rung b) := by
  rw [read_word]
  by_cases h1 : rung b < 4503599627370496
  · rw [if_pos h1]
    exact ⟨rung b, 0, by simp, by unfold vr; rw [if_pos h1, Nat.pow_zero, Nat.mul_one]⟩
  · rw [if_neg h1, if_pos h]
    exact ⟨_, _, rfl, by unfold vr; rw [if_neg h1]⟩
theorem read_inf {b : BitVec 64} (h : rung b = infR) : double.read b.toNat = .infinity (sgn b) := by
  rw [read_word, if_neg (by rw [h]; decide), if_neg (by rw [h]; omega), if_pos h]
theorem read_nan {b : BitVec 64} (h : infR < rung b) : double.read b.toNat = .nan (sgn b) (rung b - infR) := by
  have : infR = 9218868437227405312 := rfl
  rw [read_word, if_neg (by omega), if_neg (by omega), if_neg (by omega)]
theorem nanB_no {b : BitVec 64} (h : nanB b = false) : rung b ≤ infR := by
  rcases Nat.lt_or_ge infR (rung b) with q | q
  · rw [(nanB_iff b).2 q] at h; cases h
  · exact q
theorem signed_sg (s : Bool) (m up : Nat) : signed s m up = sg s (m <<< up) := rfl
theorem shl_cmp {m n p q : Nat} : (m <<< (p - min p q) < n <<< (q - min p q) ↔ m * 2 ^ p < n * 2 ^ q) := by
  rw [Nat.shiftLeft_eq, Nat.shiftLeft_eq]
  have e1 : m * 2 ^ p = m * 2 ^ (p - min p q) * 2 ^ min p q := by rw [Nat.mul_assoc, ← Nat.pow_add, Nat.sub_add_cancel (Nat.min_le_left ..)]
  have e2 : n * 2 ^ q = n * 2 ^ (q - min p q) * 2 ^ min p q := by rw [Nat.mul_assoc, ← Nat.pow_add, Nat.sub_add_cancel (Nat.min_le_right ..)]
  rw [e1, e2]
  exact (Nat.mul_lt_mul_right (Nat.two_pow_pos _)).symm
theorem fo_key {a b : BitVec 64} (ha : nanB a = false) (hb : nanB b = false) : fo a b = some (compare (key a) (key b)) := by
  have ha' := nanB_no ha
  have hb' := nanB_no hb
  unfold fo Format.order key
  rcases Nat.lt_or_ge (rung a) infR with p | p
  · obtain ⟨m, i, e1, v1⟩ := read_num p
    rcases Nat.lt_or_ge (rung b) infR with q | q
    · obtain ⟨n, j, e2, v2⟩ := read_num q
      rw [e1, e2]
      show some (compare (signed (sgn a) m ((double.leastPlace + (i : Int)) - min (double.leastPlace + (i : Int)) (double.leastPlace + (j : Int))).toNat) (signed (sgn b) n ((double.leastPlace + (j : Int)) - min (double.leastPlace + (i : Int)) (double.leastPlace + (j : Int))).toNat)) = _
      rw [show ((double.leastPlace + (i : Int)) - min (double.leastPlace + (i : Int)) (double.leastPlace + (j : Int))).toNat = i - min i j by omega, show ((double.leastPlace + (j : Int)) - min (double.leastPlace + (i : Int)) (double.leastPlace + (j : Int))).toNat = j - min i j by omega, signed_sg, signed_sg]
      congr 1
      refine cmp_sg _ _ ?_ ?_ ?_ ?_
      · rw [shl_cmp, v1, v2, vr_lt_iff]
      · rw [show min i j = min j i from Nat.min_comm ..]
        rw [shl_cmp, v1, v2, vr_lt_iff]
      · rw [Nat.shiftLeft_eq]
        have h0 := vr_lt_iff 0 (rung a)
        have hp : 0 < 2 ^ (i - min i j) := Nat.two_pow_pos _
        have hp2 : 0 < 2 ^ i := Nat.two_pow_pos _
        rw [vr_zero, ← v1] at h0
        constructor
        · intro h; rcases Nat.mul_eq_zero.1 h with h | h
          · subst h; rw [Nat.zero_mul] at h0; omega
          · omega
        · intro h
          have : ¬ 0 < m * 2 ^ i := fun x => by have := h0.1 x; omega
          rcases Nat.eq_zero_or_pos m with hm | hm
          · rw [hm, Nat.zero_mul]
          · exact absurd (Nat.mul_pos hm hp2) this
      · rw [Nat.shiftLeft_eq]
        have h0 := vr_lt_iff 0 (rung b)
        have hp : 0 < 2 ^ (j - min i j) := Nat.two_pow_pos _
        have hp2 : 0 < 2 ^ j := Nat.two_pow_pos _
        rw [vr_zero, ← v2] at h0
        constructor
        · intro h; rcases Nat.mul_eq_zero.1 h with h | h
          · subst h; rw [Nat.zero_mul] at h0; omega
          · omega
        · intro h
          have : ¬ 0 < n * 2 ^ j := fun x => by have := h0.1 x; omega
          rcases Nat.eq_zero_or_pos n with hm | hm
          · rw [hm, Nat.zero_mul]
          · exact absurd (Nat.mul_pos hm hp2) this
    · rw [e1, read_inf (show rung b = infR by omega)]
      show some (if sgn b then Ordering.gt else .lt) = _
      rw [cmp_int]
      congr 1
      cases hs : sgn a <;> cases ht : sgn b <;> simp only [sg, if_true, if_false, Bool.false_eq_true] <;> first | rw [if_pos (by omega)] | rw [if_neg (by omega), if_neg (by omega)]
  · rw [read_inf (show rung a = infR by omega)]
    rcases Nat.lt_or_ge (rung b) infR with q | q
    · obtain ⟨n, j, e2, v2⟩ := read_num q
      rw [e2]
      show some (if sgn a then Ordering.lt else .gt) = _
      rw [cmp_int]
      congr 1
      cases hs : sgn a <;> cases ht : sgn b <;> simp only [sg, if_true, if_false, Bool.false_eq_true] <;> first | rw [if_pos (by omega)] | rw [if_neg (by omega), if_neg (by omega)]
    · rw [read_inf (show rung b = infR by omega)]
      show some (compare (sgn b).toNat (sgn a).toNat) = _
      rw [show rung a = infR by omega, show rung b = infR by omega]
      cases hs : sgn a <;> cases ht : sgn b <;> rfl
theorem cmp_self (a : Int) : compare a a = .eq := by rw [cmp_int, if_neg (Int.lt_irrefl a), if_pos rfl]
theorem fo_nanL {a b : BitVec 64} (h : nanB a = true) : fo a b = none := by
  unfold fo Format.order
  rw [read_nan ((nanB_iff a).1 h)]; rfl
theorem fo_nanR {a b : BitVec 64} (h : nanB b = true) : fo a b = none := by
  unfold fo Format.order
  rw [read_nan ((nanB_iff b).1 h)]
  cases double.read a.toNat <;> rfl
theorem fo_self (x : BitVec 64) : (fo x x != some .eq) = nanB x := by
  cases h : nanB x with
  | true => rw [fo_nanL h]; rfl
  | false => rw [fo_key h h, cmp_self]; rfl
theorem sgn_slt (x : BitVec 64) : decide (x.toInt < (0#64).toInt) = sgn x := by
  have hx := x.isLt
  unfold sgn
  rw [BitVec.toInt_eq_toNat_cond, show (0#64).toInt = 0 from rfl]
  by_cases h : x.toNat < 9223372036854775808
  · rw [if_pos (by omega), show x.toNat / 9223372036854775808 = 0 by omega]
    exact decide_eq_false (by omega)
  · rw [if_neg (by omega), show x.toNat / 9223372036854775808 = 1 by omega]
    exact decide_eq_true (by omega)
/-- The sign of a number; of none: nought. -/
def sgv (x : BitVec 64) : Int := if nanB x then 0 else if sgn x then -1 else 1
theorem nan_zero : nanB 0#64 = false := by decide
theorem key_zero : key 0#64 = 0 := by decide
theorem fo_zero (x : BitVec 64) (h : nanB x = false) : fo x 0#64 = some (compare (key x) 0) := by rw [fo_key h nan_zero, key_zero]
theorem lt_zero {x : BitVec 64} (h : (fo x 0#64 == some .lt) = true) : nanB x = false ∧ sgn x = true ∧ 0 < rung x := by
  cases hn : nanB x with
  | true => rw [fo_nanL hn] at h; cases h
  | false =>
    rw [fo_zero x hn, cmp_int] at h
    by_cases hk : key x < 0
    · unfold key sg at hk
      cases hs : sgn x with
      | true => rw [hs] at hk; simp at hk; exact ⟨rfl, rfl, hk⟩
      | false => rw [hs] at hk; simp at hk; omega
    · rw [if_neg hk] at h
      split at h <;> cases h
theorem sgv_lt {x : BitVec 64} (h : (fo x 0#64 == some .lt) = true) : (-1 : Int) = sgv x := by
  obtain ⟨h1, h2, _⟩ := lt_zero h
  unfold sgv; rw [h1, h2]; rfl
theorem eq_zero {x : BitVec 64} (h : (fo x 0#64 == some .eq) = true) : nanB x = false ∧ rung x = 0 := by
  cases hn : nanB x with
  | true => rw [fo_nanL hn] at h; cases h
  | false =>
    rw [fo_zero x hn, cmp_int] at h
    refine ⟨rfl, ?_⟩
    by_cases hk : key x < 0
    · rw [if_pos hk] at h; cases h
    · rw [if_neg hk] at h
      by_cases h0 : key x = 0
      · unfold key sg at h0
        split at h0 <;> omega
      · rw [if_neg h0] at h; cases h
theorem not_zero {x : BitVec 64} (hn : nanB x = false) (h1 : (fo x 0#64 == some .lt) = false) (h2 : (fo x 0#64 == some .eq) = false) : sgn x = false ∧ 0 < rung x := by
  rw [fo_zero x hn, cmp_int] at h1 h2
  by_cases hk : key x < 0
  · rw [if_pos hk] at h1; cases h1
  · rw [if_neg hk] at h2
    by_cases h0 : key x = 0
    · rw [if_pos h0] at h2; cases h2
    · unfold key sg at hk h0
      cases hs : sgn x with
      | true => rw [hs] at hk h0; simp at hk h0; omega
      | false => rw [hs] at hk h0; simp at hk h0; exact ⟨rfl, by omega⟩
theorem sgv_zero {x : BitVec 64} (h : (fo x 0#64 == some .eq) = true) (hs : sgn x = true) : (-1 : Int) = sgv x := by
  obtain ⟨h1, _⟩ := eq_zero h
  unfold sgv; rw [h1, hs]; rfl
theorem sgv_nan {x : BitVec 64} (h : nanB x = true) : sgv x = 0 := by unfold sgv; rw [h]; rfl
theorem sgv_one {x : BitVec 64} (h : nanB x = false) (hs : sgn x = false) : (1 : Int) = sgv x := by unfold sgv; rw [h, hs]; rfl
theorem sgv_pos {x : BitVec 64} (h5 : (fo x 0#64 == some .lt) = false) (h8 : (fo x 0#64 == some .eq) = false) (h : nanB x = false) : (1 : Int) = sgv x := sgv_one h (not_zero h h5 h8).1
/-- A word's place in the order of all words; no number: ahead of all. -/
def nk (x : BitVec 64) : Int := if nanB x then -18446744073709551616 else if sgn x then -(rung x : Int) - 1 else rung x
def ord (x y : BitVec 64) : Int := if nk x < nk y then -1 else if nk y < nk x then 1 else 0
theorem rung_lt (x : BitVec 64) : rung x < 9223372036854775808 := Nat.mod_lt _ (by decide)
theorem nk_nan {x : BitVec 64} (h : nanB x = true) : nk x = -18446744073709551616 := by unfold nk; rw [h]; rfl
theorem nk_gt {x : BitVec 64} (h : nanB x = false) : -18446744073709551616 < nk x := by
  have := rung_lt x
  unfold nk; rw [h]
  cases sgn x <;> simp <;> omega
theorem fo_lt {x y : BitVec 64} (h : (fo x y == some .lt) = true) : nanB x = false ∧ nanB y = false ∧ key x < key y := by
  cases hx : nanB x with
  | true => rw [fo_nanL hx] at h; cases h
  | false => cases hy : nanB y with
    | true => rw [fo_nanR hy] at h; cases h
    | false =>
      rw [fo_key hx hy, cmp_int] at h
      refine ⟨rfl, rfl, ?_⟩
      by_cases hk : key x < key y
      · exact hk
      · rw [if_neg hk] at h; split at h <;> cases h
theorem fo_gt {x y : BitVec 64} (h : (fo x y == some .gt) = true) : nanB x = false ∧ nanB y = false ∧ key y < key x := by
  cases hx : nanB x with
  | true => rw [fo_nanL hx] at h; cases h
  | false => cases hy : nanB y with
    | true => rw [fo_nanR hy] at h; cases h
    | false =>
      rw [fo_key hx hy, cmp_int] at h
      refine ⟨rfl, rfl, ?_⟩
      by_cases hk : key x < key y
      · rw [if_pos hk] at h; cases h
      · rw [if_neg hk] at h
        by_cases he : key x = key y
        · rw [if_pos he] at h; cases h
        · omega
theorem fo_not {x y : BitVec 64} (hx : nanB x = false) (hy : nanB y = false) (h1 : (fo x y == some .lt) = false) (h2 : (fo x y == some .gt) = false) : key x = key y := by
  rw [fo_key hx hy, cmp_int] at h1 h2
  by_cases hk : key x < key y
  · rw [if_pos hk] at h1; cases h1
  · rw [if_neg hk] at h2
    by_cases he : key x = key y
    · exact he
    · rw [if_neg he] at h2; cases h2
theorem ord_lt {x y : BitVec 64} (h : nk x < nk y) : (-1 : Int) = ord x y := by unfold ord; rw [if_pos h]
theorem ord_gt {x y : BitVec 64} (h : nk y < nk x) : (1 : Int) = ord x y := by unfold ord; rw [if_neg (by omega), if_pos h]
theorem ord_eq {x y : BitVec 64} (h : nk x = nk y) : (0 : Int) = ord x y := by unfold ord; rw [if_neg (by omega), if_neg (by omega)]
theorem nk_key {x y : BitVec 64} (hx : nanB x = false) (hy : nanB y = false) (h : key x < key y) : nk x < nk y := by
  unfold nk; rw [hx, hy]
  unfold key sg at h
  cases hs : sgn x <;> cases ht : sgn y <;> rw [hs, ht] at h <;> simp at h ⊢ <;> omega
theorem nk_sgv {x y : BitVec 64} (hx : nanB x = false) (hy : nanB y = false) (h : key x = key y) : (nk x < nk y ↔ sgv x < sgv y) ∧ (nk y < nk x ↔ sgv y < sgv x) := by
  unfold nk sgv; rw [hx, hy]
  unfold key sg at h
  cases hs : sgn x <;> cases ht : sgn y <;> rw [hs, ht] at h <;> simp at h ⊢ <;> omega
end Go.Sym
