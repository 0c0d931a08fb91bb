/-
  Half of a number above nought is another number; only the end stays what it is. No program is in sight here.
-/
import Derived.Test.YtbfiaoemoookcaaDoorGfl
namespace Go.Sym
open Go Ieee

theorem cut_eight {m : Nat} (h : 0 < m) : Toward.even.cut false (m * 8) 3 = m := by
  unfold Toward.cut
  have h1 : 1 ≤ (m * 8).log2 := (Nat.le_log2 (by omega)).2 (by omega)
  have h2 : min 3 ((m * 8).log2 + 2) = 3 := Nat.min_eq_left (by omega)
  rw [h2]
  simp only
  rw [show 1 <<< 3 = 8 from rfl, Nat.mul_div_cancel _ (by decide), Nat.mul_mod_left]
  rfl
theorem cut_half {m e : Nat} (h : 0 < m) : Toward.even.cut false (m * 2 ^ (e + 1)) (e + 2) < m := by
  unfold Toward.cut
  have hp : 0 < 2 ^ (e + 1) := Nat.two_pow_pos _
  have h1 : e + 1 ≤ (m * 2 ^ (e + 1)).log2 := (Nat.le_log2 (by have := Nat.mul_pos h hp; omega)).2 (Nat.le_mul_of_pos_left _ h)
  have h2 : min (e + 2) ((m * 2 ^ (e + 1)).log2 + 2) = e + 2 := Nat.min_eq_left (by omega)
  rw [h2]
  simp only
  rw [show 1 <<< (e + 2) = 2 * 2 ^ (e + 1) by rw [Nat.one_shiftLeft, Nat.pow_succ, Nat.mul_comm], Nat.mul_div_mul_right _ _ hp, Nat.mul_mod_mul_right]
  generalize 2 ^ (e + 1) = p at hp
  clear h1 h2
  rcases Nat.mod_two_eq_zero_or_one m with q | q
  · rw [q, Nat.zero_mul]
    have e1 : (decide (2 * p < 2 * 0) || 2 * p == 2 * 0 && m / 2 % 2 == 1) = false := by
      rw [decide_eq_false (by omega), beq_eq_false_iff_ne.2 (by omega)]; rfl
    rw [e1]
    show m / 2 + 0 < m
    omega
  · rw [q, Nat.one_mul]
    by_cases h3 : m / 2 % 2 = 1
    · have : (decide (2 * p < 2 * p) || 2 * p == 2 * p && m / 2 % 2 == 1).toNat ≤ 1 := Bool.toNat_le _
      omega
    · have e1 : (decide (2 * p < 2 * p) || 2 * p == 2 * p && m / 2 % 2 == 1) = false := by
        rw [decide_eq_false (by omega), beq_eq_false_iff_ne (a := m / 2 % 2).2 h3]; simp
      rw [e1]
      show m / 2 + 0 < m
      omega
theorem log_mul {m e : Nat} (h : 0 < m) : (m * 2 ^ e).log2 = m.log2 + e := by
  have h1 := Nat.log2_self_le (show m ≠ 0 by omega)
  have h2 := Nat.lt_log2_self (n := m)
  refine (Nat.log2_eq_iff (by have := Nat.mul_pos h (Nat.two_pow_pos e); omega)).2 ⟨?_, ?_⟩
  · rw [Nat.pow_add]; exact Nat.mul_le_mul_right _ h1
  · rw [show m.log2 + e + 1 = m.log2 + 1 + e by omega, Nat.pow_add]; exact Nat.mul_lt_mul_of_pos_right h2 (Nat.two_pow_pos _)
theorem least_d : double.leastPlace = -1074 := by decide
/-- The half of m units at place i, as it is written. -/
theorem half_write {m k : Nat} (h0 : 0 < m) (hm : m < 9007199254740992) : ∃ d, (Datum.number false m (double.leastPlace + (k : Int))).quotient 54 (.number false 4503599627370496 (-51)) = some d ∧ d.isNaN = false ∧
    double.write d = double.nearest false (m * 2 ^ (54 - m.log2 + 1)) (double.leastPlace + (k : Int) - ((54 - m.log2 : Nat) : Int) - 2) := by
  have hl : m.log2 ≤ 52 := by
    rcases Nat.lt_or_ge 52 m.log2 with q | q
    · have := (Nat.le_log2 (show m ≠ 0 by omega)).1 (show 53 ≤ m.log2 by omega); omega
    · exact q
  refine ⟨_, rfl, rfl, ?_⟩
  have l52 : (4503599627370496 : Nat).log2 = 52 := by decide +kernel
  rw [l52]
  generalize he : 54 - m.log2 = e
  have hmore : 54 + 52 - m.log2 = e + 52 := by omega
  rw [hmore]
  have hd : m <<< (e + 52) = m * 2 ^ e * 4503599627370496 := by rw [Nat.shiftLeft_eq, Nat.pow_add, Nat.mul_assoc]
  rw [hd, Nat.mul_div_cancel _ (by decide), Nat.mul_mod_left]
  show double.nearest (false ^^ false) (2 * (m * 2 ^ e) + 0) _ = _
  rw [show 2 * (m * 2 ^ e) + 0 = m * 2 ^ (e + 1) by rw [Nat.pow_succ, Nat.add_zero, Nat.mul_comm 2, Nat.mul_assoc]]
  congr 1
  omega
theorem half_ne {z : BitVec 64} (hs : sgn z = false) (hr : rung z < infR) (h0 : 0 < rung z) : ∃ r, floatBits .quo .f64 z.toNat 4611686018427387904 = some (double.word false r) ∧ r ≤ infR ∧ r < rung z := by
  have hk : double.read 4611686018427387904 = .number false 4503599627370496 (-51) := by decide +kernel
  have hi : infR = 9218868437227405312 := rfl
  have form : ∃ m k : Nat, 0 < m ∧ m < 9007199254740992 ∧ double.read z.toNat = .number false m (double.leastPlace + (k : Int)) ∧ rung z = k * 4503599627370496 + m ∧ (k = 0 ∨ 4503599627370496 ≤ m) := by
    by_cases h1 : rung z < 4503599627370496
    · exact ⟨rung z, 0, h0, by omega, by rw [read_word, if_pos h1, hs]; simp, by omega, .inl rfl⟩
    · refine ⟨4503599627370496 + rung z % 4503599627370496, rung z / 4503599627370496 - 1, by omega, by omega, by rw [read_word, if_neg h1, if_pos hr, hs], by omega, .inr (by omega)⟩
  obtain ⟨m, k, hm0, hm, hread, hrung, hkm⟩ := form
  obtain ⟨d, hq, _, hw⟩ := half_write (k := k) hm0 hm
  have hfb : floatBits .quo .f64 z.toNat 4611686018427387904 = some (double.write d) := by
    show ((double.read z.toNat).quotient 54 (double.read 4611686018427387904)).map double.write = _
    rw [hk, hread, hq]; rfl
  rw [hfb, hw]
  have hl : m.log2 ≤ 52 := by
    rcases Nat.lt_or_ge 52 m.log2 with q | q
    · have := (Nat.le_log2 (show m ≠ 0 by omega)).1 (show 53 ≤ m.log2 by omega); omega
    · exact q
  have hlm : k = 0 ∨ m.log2 = 52 := by
    rcases hkm with q | q
    · exact .inl q
    · right
      have := (Nat.le_log2 (show m ≠ 0 by omega) (k := 52)).2 q
      omega
  generalize he : 54 - m.log2 = e
  have hlog : (m * 2 ^ (e + 1)).log2 = m.log2 + (e + 1) := log_mul hm0
  have hne : m * 2 ^ (e + 1) ≠ 0 := by have := Nat.mul_pos hm0 (Nat.two_pow_pos (e + 1)); omega
  unfold Format.nearest
  rw [if_neg hne, hlog, least_d, binade_d, inf_rung]
  have hfb : (double.fractionBits : Int) = 52 := by decide
  simp only [hfb]
  by_cases hk0 : k = 0
  · subst hk0
    have hlast : max (-1074 + ((0 : Nat) : Int) - (e : Int) - 2 + ((m.log2 + (e + 1) : Nat) : Int) - 52) (-1074) = -1074 := by omega
    rw [hlast, show (-1074 + ((0 : Nat) : Int) - (e : Int) - 2 - -1074).toNat = 0 by omega, show (-1074 - (-1074 + ((0 : Nat) : Int) - (e : Int) - 2)).toNat = e + 2 by omega, Nat.shiftLeft_zero]
    have hc := cut_half (e := e) hm0
    generalize Toward.even.cut false (m * 2 ^ (e + 1)) (e + 2) = c at hc
    refine ⟨_, rfl, Nat.min_le_right _ _, ?_⟩
    rw [show ((-1074 : Int) - -1074).toNat = 0 by decide]
    have := Nat.min_le_left (0 * 4503599627370496 + c) infR
    omega
  · have hl2 : m.log2 = 52 := by omega
    obtain rfl : e = 2 := by omega
    have hlast : max (-1074 + (k : Int) - ((2 : Nat) : Int) - 2 + ((m.log2 + (2 + 1) : Nat) : Int) - 52) (-1074) = -1074 + (k : Int) - 1 := by omega
    rw [hlast, show (-1074 + (k : Int) - ((2 : Nat) : Int) - 2 - (-1074 + (k : Int) - 1)).toNat = 0 by omega, show (-1074 + (k : Int) - 1 - (-1074 + (k : Int) - ((2 : Nat) : Int) - 2)).toNat = 3 by omega, Nat.shiftLeft_zero]
    rw [show m * 2 ^ (2 + 1) = m * 8 from rfl, cut_eight hm0, show (-1074 + (k : Int) - 1 - -1074).toNat = k - 1 by omega]
    refine ⟨_, rfl, Nat.min_le_right _ _, ?_⟩
    refine Nat.lt_of_le_of_lt (Nat.min_le_left _ _) ?_
    rw [hrung]
    exact Nat.add_lt_add_right (Nat.mul_lt_mul_of_pos_right (by omega) (by decide)) m
theorem half_inf {z : BitVec 64} (hs : sgn z = false) (hr : rung z = infR) : floatBits .quo .f64 z.toNat 4611686018427387904 = some (double.word false infR) := by
  have hk : double.read 4611686018427387904 = .number false 4503599627370496 (-51) := by decide +kernel
  show ((double.read z.toNat).quotient 54 (double.read 4611686018427387904)).map double.write = _
  rw [hk, read_inf hr, hs]
  show some (double.word (false ^^ false) double.infRung) = _
  rw [inf_rung]; rfl
/-- A number above nought is its half just if it is the end. -/
theorem half_eq {z r : BitVec 64} (hs : sgn z = false) (hn : nanB z = false) (h0 : 0 < rung z) (h : FR .quo z 4611686018427387904#64 r) : (fo z r == some .eq) = (rung z == infR) := by
  have hz := nanB_no hn
  have key : ∃ k, k ≤ infR ∧ r.toNat = double.word false k ∧ (rung z = k ↔ rung z = infR) := by
    rcases Nat.lt_or_ge (rung z) infR with p | p
    · obtain ⟨k, h1, h2, h3⟩ := half_ne hs p h0
      exact ⟨k, h2, h.of_some h1, by omega⟩
    · exact ⟨infR, Nat.le_refl _, h.of_some (half_inf hs (by omega)), by omega⟩
  obtain ⟨k, hk, hw, hiff⟩ := key
  obtain ⟨s1, s2⟩ := word_facts hw hk
  rw [fo_pos hn (num_of (by rw [s2]; exact hk)) hs s1, s2]
  show (some (if rung z < k then Ordering.lt else if rung z = k then .eq else .gt) == some .eq) = _
  by_cases q : rung z = infR
  · rw [if_neg (by have := hiff.2 q; omega), if_pos (hiff.2 q), q]; rfl
  · rw [beq_eq_false_iff_ne.2 q]
    by_cases q2 : rung z < k
    · rw [if_pos q2]; rfl
    · rw [if_neg q2, if_neg (fun e => q (hiff.1 e))]; rfl
/-- One by a nought: an end with the nought's sign. -/
theorem one_by_zero {x r : BitVec 64} (h0 : rung x = 0) (h : FR .quo 4607182418800017408#64 x r) : nanB r = false ∧ sgn r = sgn x ∧ rung r = infR := by
  have hk : double.read 4607182418800017408 = .number false 4503599627370496 (-52) := by decide +kernel
  have hr : double.read x.toNat = .number (sgn x) 0 double.leastPlace := by rw [read_word, if_pos (by omega), h0]
  have hf : floatBits .quo .f64 (4607182418800017408#64).toNat x.toNat = some (double.word (sgn x) infR) := by
    show ((double.read 4607182418800017408).quotient 54 (double.read x.toNat)).map double.write = _
    rw [hk, hr]
    show some (double.word (false ^^ sgn x) double.infRung) = _
    rw [inf_rung, Bool.false_xor]
  obtain ⟨h1, h2⟩ := word_facts (h.of_some hf) (Nat.le_refl _)
  exact ⟨num_of (by rw [h2]; exact Nat.le_refl _), h1, h2⟩
end Go.Sym
