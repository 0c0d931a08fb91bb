/-
  What the laws of chapter 10 say of powers, inverses and roots, as laws of numbers modulo the prime. No program is in sight here.
-/
import Derived.Test.YtjnhgeoojnnfoaaPow
namespace Go.Sym
open Go

theorem pw_def (n E : Nat) : pw n E = n ^ E % pP := by unfold pw; rfl
theorem one_p : 1 % pP = 1 := by decide +kernel
theorem pw_zero (n : Nat) : pw n 0 = 1 := by rw [pw_def, Nat.pow_zero, one_p]
theorem pw_one {n : Nat} (h : n < pP) : pw n 1 = n := by rw [pw_def, Nat.pow_one, Nat.mod_eq_of_lt h]
theorem pw_add (n a b : Nat) : pw n a * pw n b % pP = pw n (a + b) := by rw [pw_def, pw_def, pw_def, ← Nat.mul_mod, Nat.pow_add]
theorem pw_pw (n a b : Nat) : pw (pw n a) b = pw n (a * b) := by rw [pw_def, pw_def, pw_def, ← Nat.pow_mod, Nat.pow_mul]
theorem pw_mul (m n a : Nat) : pw (m * n % pP) a = pw m a * pw n a % pP := by rw [pw_def, pw_def, pw_def, ← Nat.pow_mod, ← Nat.mul_mod, Nat.mul_pow]
theorem one_pw (a : Nat) : pw 1 a = 1 := by rw [pw_def, Nat.one_pow, one_p]
theorem zero_pw {a : Nat} (h : 0 < a) : pw 0 a = 0 := by rw [pw_def, Nat.zero_pow h, Nat.zero_mod]
theorem pw_pm {n E v : Nat} (hE : E < 2 ^ 256) (h : pm pP 256 n E = v) : pw n E = v := by rw [pw_def, ← pm_eq pP 256 n E hE, h]
def hP : Nat := (pP - 1) / 2
theorem two_h : pw 2 hP = pP - 1 := pw_pm (by decide +kernel) (by decide +kernel)
theorem two_p : pw 2 (pP - 1) = 1 := pw_pm (by decide +kernel) (by decide +kernel)
theorem h_h : hP + hP = pP - 1 := by decide +kernel
theorem Q_Q : eQ + eQ = hP := by decide +kernel
theorem S_S : eS + eS = 1 + eQ := by decide +kernel
theorem I_1 : 1 + eI = pP - 1 := by decide +kernel
theorem I_I : eI * eI = (pP - 1) * (pP - 3) + 1 := by decide +kernel
theorem I_pos : 0 < eI := by decide +kernel
theorem S_pos : 0 < eS := by decide +kernel
theorem p_odd : pP % 2 = 1 := by decide +kernel
theorem p_big : 5 < pP := by decide +kernel
theorem neg_neg : (pP - 1) * (pP - 1) % pP = 1 := by decide +kernel
attribute [irreducible] hP

theorem is_pw {n : Nat} (h0 : 0 < n) (hn : n < pP) : ∃ k, pw 2 k = n := by
  obtain ⟨k, _, h⟩ := gen_p.cover h0 hn
  exact ⟨k, by rw [pw_def]; exact h⟩
theorem fermat {n : Nat} (h0 : 0 < n) (hn : n < pP) : pw n (pP - 1) = 1 := by
  obtain ⟨k, rfl⟩ := is_pw h0 hn
  rw [pw_pw, Nat.mul_comm, ← pw_pw, two_p, one_pw]
theorem neg_pw (k : Nat) : pw (pP - 1) k = if k % 2 = 0 then 1 else pP - 1 := by
  have e : pw (pP - 1) 2 = 1 := by rw [pw_def, Nat.pow_two, neg_neg]
  have hl : pP - 1 < pP := by have := p_big; omega
  split
  · rename_i h
    rw [show k = 2 * (k / 2) by omega, ← pw_pw, e, one_pw]
  · rename_i h
    have h1 : pw (pP - 1) (2 * (k / 2)) = 1 := by rw [← pw_pw, e, one_pw]
    rw [show k = 2 * (k / 2) + 1 by omega, ← pw_add, h1, pw_one hl, Nat.one_mul, Nat.mod_eq_of_lt hl]
theorem euler {n : Nat} (h0 : 0 < n) (hn : n < pP) : (pw n hP = 1 ∧ ∃ x, 0 < x ∧ x < pP ∧ x * x % pP = n) ∨ pw n hP = pP - 1 := by
  obtain ⟨k, hk⟩ := is_pw h0 hn
  have e : pw n hP = pw (pP - 1) k := by rw [← hk, pw_pw, Nat.mul_comm, ← pw_pw, two_h]
  rw [e, neg_pw]
  by_cases h : k % 2 = 0
  · rw [if_pos h]
    refine Or.inl ⟨rfl, pw 2 (k / 2), ?_, pw_lt _ _, ?_⟩
    · rcases Nat.eq_zero_or_pos (pw 2 (k / 2)) with q | q
      · have := pw_add 2 (k / 2) (k / 2)
        rw [q, Nat.zero_mul, Nat.zero_mod, show k / 2 + k / 2 = k by omega, hk] at this
        omega
      · exact q
    · rw [pw_add, show k / 2 + k / 2 = k by omega, hk]
  · rw [if_neg h]; exact Or.inr rfl
theorem square_pw (x a : Nat) : pw (x * x % pP) a = pw x (a + a) := by rw [pw_mul, pw_add]

/-! ### roots -/
theorem r0_square {n : Nat} (hn : n < pP) : r0N n * r0N n % pP = n * pw n eQ % pP := by
  rw [pw_add, S_S, ← pw_add, pw_one hn]
theorem sq_gen {n : Nat} (h : pw n hP = pP - 1) : pw n eQ * pw n eQ % pP = pP - 1 := by rw [pw_add, Q_Q, h]
theorem sq_of {i n : Nat} (hi : i = pw n eQ) (hn : n = 2) : i * i % pP = pP - 1 := by
  rw [hi]; exact sq_gen (by rw [hn]; exact two_h)
theorem i_square : iN * iN % pP = pP - 1 := sq_of iN_eq (by decide)
theorem mul4_mod (a i p : Nat) : (a * i % p) * (a * i % p) % p = (a * a % p) * (i * i % p) % p := by
  rw [← Nat.mul_mod, ← Nat.mul_mod, Nat.mul_mul_mul_comm]
theorem okN_zero : okN 0 = true ∧ outN 0 = 0 := by
  have e : r0N 0 = 0 := zero_pw S_pos
  have e1 : r1N 0 = 0 := by rw [r1N_yes (by rw [e, Nat.zero_mul, Nat.zero_mod]), e]
  have := outN_even (n := 0) (by rw [e1, Nat.zero_mul, Nat.zero_mod]) (by rw [e1]; decide)
  exact ⟨this.2, by rw [this.1, e1]⟩
theorem okN_square {x : Nat} (hx : x < pP) : okN (x * x % pP) = true := by
  rcases Nat.eq_zero_or_pos x with h0 | h0
  · rw [h0, Nat.zero_mul, Nat.zero_mod]; exact okN_zero.1
  · have hn : x * x % pP < pP := Nat.mod_lt _ pP_pos
    generalize hN : x * x % pP = n at hn ⊢
    have hq : pw n eQ = pw x hP := by rw [← hN, square_pw, Q_Q]
    have hr := r0_square hn
    rw [hq] at hr
    unfold okN
    rw [decide_eq_true_eq]
    by_cases hy : r0N n * r0N n % pP = n
    · rw [r1N_yes hy]; exact hy
    · rcases euler h0 hx with ⟨h1, _⟩ | h1
      · exfalso
        rw [h1, Nat.mul_one, Nat.mod_eq_of_lt hn] at hr
        exact hy hr
      · rw [r1N_no hy, mul4_mod, i_square, hr, h1, Nat.mod_mul_mod, Nat.mul_assoc, Nat.mul_mod, neg_neg, Nat.mul_one, Nat.mod_mod, Nat.mod_eq_of_lt hn]
theorem neg_num {r : Nat} (h0 : 0 < r) (hr : r < pP) : (0 + pP - r) % pP = pP - r := by
  rw [Nat.zero_add]; exact Nat.mod_eq_of_lt (by omega)
theorem neg_square {r p : Nat} (hr : r ≤ p) : (p - r) * (p - r) % p = r * r % p := by
  obtain ⟨s, rfl⟩ : ∃ s, p = r + s := ⟨p - r, by omega⟩
  rw [Nat.add_sub_cancel_left]
  have e : s * s + (r + s) * r = r * r + (r + s) * s := by
    rw [Nat.add_mul, Nat.add_mul, Nat.mul_comm s r]; omega
  have := congrArg (· % (r + s)) e
  simp only [Nat.add_mul_mod_self_left] at this
  exact this
theorem okN_out {n : Nat} (h : okN n = true) : outN n * outN n % pP = n ∧ outN n % 2 = 0 := by
  have h2 : r1N n * r1N n % pP = n := by unfold okN at h; exact of_decide_eq_true h
  have hl := r1N_lt n
  by_cases h3 : r1N n % 2 = 1
  · rw [(outN_odd h2 h3).1, neg_num (by omega) hl, neg_square (by omega)]
    have := p_odd
    exact ⟨h2, by omega⟩
  · rw [(outN_even h2 h3).1]
    exact ⟨h2, by omega⟩
theorem okN_no {n : Nat} (h : okN n = false) : outN n = 0 := by
  have h2 : ¬ r1N n * r1N n % pP = n := by unfold okN at h; exact of_decide_eq_false h
  exact (outN_none h2).1
theorem outN_even2 (n : Nat) : outN n % 2 = 0 := by
  cases h : okN n
  · rw [okN_no h]
  · exact (okN_out h).2
theorem okN_iff {n : Nat} (h0 : 0 < n) (hn : n < pP) : okN n = true ↔ pw n hP = 1 := by
  constructor
  · intro h
    have h2 := (okN_out h).1
    have hl := outN_lt n
    have hp : 0 < outN n := by
      rcases Nat.eq_zero_or_pos (outN n) with q | q
      · rw [q, Nat.zero_mul, Nat.zero_mod] at h2; omega
      · exact q
    rw [← h2, square_pw, h_h, fermat hp hl]
  · intro h
    rcases euler h0 hn with ⟨_, x, _, hx, e⟩ | h1
    · rw [← e]; exact okN_square hx
    · have := p_big; omega
theorem okN_twice {n : Nat} (h0 : 0 < n) (hn : n < pP) : okN n = !okN (2 * n % pP) := by
  have hl : 2 * n % pP < pP := Nat.mod_lt _ pP_pos
  have hne : 0 < 2 * n % pP := by
    have := p_odd
    rcases Nat.lt_or_ge (2 * n) pP with h | h
    · rw [Nat.mod_eq_of_lt h]; omega
    · rw [Nat.mod_eq_sub_mod h, Nat.mod_eq_of_lt (by omega)]; omega
  have e : pw (2 * n % pP) hP = (pP - 1) * pw n hP % pP := by rw [pw_mul, two_h]
  have hb := p_big
  rcases euler h0 hn with ⟨h1, _⟩ | h1
  · rw [(okN_iff h0 hn).2 h1]
    have : okN (2 * n % pP) ≠ true := fun h => by
      have := (okN_iff hne hl).1 h
      rw [e, h1, Nat.mul_one, Nat.mod_eq_of_lt (by omega)] at this
      omega
    cases hq : okN (2 * n % pP)
    · rfl
    · exact absurd hq this
  · rw [(okN_iff hne hl).2 (by rw [e, h1, neg_neg])]
    cases hq : okN n
    · rfl
    · have := (okN_iff h0 hn).1 hq
      omega
theorem same_square {r x : Nat} (hr : r < pP) (hx : x < pP) (h : r * r % pP = x * x % pP) : r = x ∨ r = (0 + pP - x) % pP := by
  have key : ∀ r x, r < pP → x < pP → x ≤ r → r * r % pP = x * x % pP → r = x ∨ r + x = pP := by
    intro r x hr hx hle h
    obtain ⟨d, rfl⟩ : ∃ d, r = x + d := ⟨r - x, by omega⟩
    have e : (x + d) * (x + d) = x * x + d * (x + d + x) := by
      rw [Nat.mul_add, Nat.add_mul, Nat.mul_comm d (x + d + x), Nat.add_mul, Nat.add_mul, Nat.add_mul, Nat.mul_comm d x]; omega
    have hd : pP ∣ d * (x + d + x) := by
      have h2 := Nat.sub_mod_eq_zero_of_mod_eq h
      rw [e, Nat.add_sub_cancel_left] at h2
      exact Nat.dvd_of_mod_eq_zero h2
    rcases pr_p.euclid hd with h3 | h3
    · rcases Nat.eq_zero_or_pos d with h4 | h4
      · left; omega
      · have := Nat.le_of_dvd h4 h3; omega
    · obtain ⟨c, hc⟩ := h3
      rcases Nat.lt_or_ge c 2 with h4 | h4
      · rcases (show c = 0 ∨ c = 1 by omega) with h5 | h5
        · rw [h5, Nat.mul_zero] at hc; left; omega
        · rw [h5, Nat.mul_one] at hc; right; omega
      · have := Nat.mul_le_mul_left pP h4
        omega
  rcases Nat.le_total x r with h1 | h1
  · rcases key r x hr hx h1 h with h2 | h2
    · exact Or.inl h2
    · rcases Nat.eq_zero_or_pos x with h3 | h3
      · omega
      · right; rw [neg_num h3 hx]; omega
  · rcases key x r hx hr h1 h.symm with h2 | h2
    · exact Or.inl h2.symm
    · rcases Nat.eq_zero_or_pos x with h3 | h3
      · omega
      · right; rw [neg_num h3 hx]; omega
theorem root_of_square {x : Nat} (hx : x < pP) : outN (x * x % pP) = x ∨ outN (x * x % pP) = (0 + pP - x) % pP :=
  same_square (outN_lt _) hx (okN_out (okN_square hx)).1

/-! ### inverses -/
theorem inv_mul {n : Nat} (h0 : 0 < n) (hn : n < pP) : n * invN n % pP = 1 := by
  unfold invN
  have e := pw_add n 1 eI
  rw [pw_one hn, I_1, fermat h0 hn] at e
  exact e
theorem inv_inv {n : Nat} (hn : n < pP) : invN (invN n) = n := by
  unfold invN
  rcases Nat.eq_zero_or_pos n with h | h
  · rw [h, zero_pw I_pos, zero_pw I_pos]
  · rw [pw_pw, I_I, ← pw_add, ← pw_pw, fermat h hn, one_pw, pw_one hn, Nat.one_mul, Nat.mod_eq_of_lt hn]
theorem inv_prod (m n : Nat) : invN (m * n % pP) = invN m * invN n % pP := pw_mul m n eI
theorem inv_zero : invN 0 = 0 := zero_pw I_pos
theorem ratio_even (u v : Nat) : (ratioN u v).1 % 2 = 0 := by
  unfold ratioN; split
  · rfl
  · exact outN_even2 _
theorem ratio_no {u v : Nat} (h : (ratioN u v).2 = false) : (ratioN u v).1 = 0 := by
  by_cases hv : v = 0
  · rw [ratioN_yes hv]
  · rw [ratioN_no hv] at h ⊢; exact okN_no h
theorem ratio_good {u v : Nat} (h0 : 0 < v) (hu : u < pP) (hv : v < pP) (h : (ratioN u v).2 = true) : (ratioN u v).1 * (ratioN u v).1 % pP * v % pP = u := by
  rw [ratioN_no (by omega)] at h ⊢
  rw [(okN_out h).1, Nat.mod_mul_mod, Nat.mul_assoc, Nat.mul_comm (invN v), Nat.mul_mod, inv_mul h0 hv, Nat.mul_one, Nat.mod_mod, Nat.mod_eq_of_lt hu]
theorem ratio_square {u v : Nat} (h0 : 0 < v) (hu : u < pP) (hv : v < pP) : (ratioN (u * u % pP * v % pP) v).2 = true ∧ ((ratioN (u * u % pP * v % pP) v).1 = u ∨ (ratioN (u * u % pP * v % pP) v).1 = (0 + pP - u) % pP) := by
  rw [ratioN_no (by omega)]
  have e : u * u % pP * v % pP * invN v % pP = u * u % pP := by
    rw [Nat.mod_mul_mod, Nat.mul_assoc, Nat.mul_mod, inv_mul h0 hv, Nat.mul_one, Nat.mod_mod, Nat.mod_mod]
  rw [e]
  exact ⟨okN_square hu, root_of_square hu⟩

/-! ### at the walks -/
theorem tw_eqn {x y : Nat → BitVec 64} {m n : Nat} (hx : Tw x m) (hy : Tw y n) (h : m = n) : val x % pP = val y % pP := by rw [hx.2.2, hy.2.2, h]
theorem tw_ne {x y : Nat → BitVec 64} {m n : Nat} (hx : Tw x m) (hy : Tw y n) (h : ¬ m = n) : ¬ val x % pP = val y % pP := by rw [hx.2.2, hy.2.2]; exact h
theorem four_ok : okX (limb51 (4#64).toNat) = true := by
  rw [(Tw.small 4#64).okk, show (4#64 : BitVec 64).toNat = 2 * 2 % pP from by decide +kernel]
  exact okN_square (by decide +kernel)
theorem four_out : outN (4#64).toNat = (2#64).toNat := by
  have e : (4#64 : BitVec 64).toNat = 2 * 2 % pP := by decide +kernel
  rw [e]
  have h2 := outN_even2 (2 * 2 % pP)
  rcases root_of_square (x := 2) (by decide +kernel) with h | h
  · exact h
  · rw [h, neg_num (by decide) (by decide +kernel)] at h2
    have := p_odd
    have := p_big
    omega
theorem one_inv : invN (1#64).toNat = (1#64).toNat := one_pw _
/-! exponents of four and eight bytes -/
theorem byt_part (n k : Nat) : upd (byt (n % 2 ^ (8 * k))) k (byt n k) = byt (n % 2 ^ (8 * (k + 1))) := by
  funext i
  unfold upd
  by_cases h : i = k
  · subst h
    rw [if_pos rfl, byt_mod _ _ _ (by omega)]
  · rw [if_neg h]
    refine BitVec.eq_of_getLsbD_eq fun j hj => ?_
    rw [byt_get, byt_get, Nat.testBit_mod_two_pow, Nat.testBit_mod_two_pow]
    rcases Nat.lt_or_ge i k with h1 | h1
    · simp [show 8 * i + j < 8 * k by omega, show 8 * i + j < 8 * (k + 1) by omega]
    · simp [show ¬ 8 * i + j < 8 * k by omega, show ¬ 8 * i + j < 8 * (k + 1) by omega]
theorem part_all {n k : Nat} (h : n < 2 ^ 32) (hk : 4 ≤ k) : n % 2 ^ (8 * k) = n % 2 ^ (8 * (k + 1)) := by
  rw [Nat.mod_eq_of_lt (Nat.lt_of_lt_of_le h (Nat.pow_le_pow_right (by decide) (by omega))), Nat.mod_eq_of_lt (Nat.lt_of_lt_of_le h (Nat.pow_le_pow_right (by decide) (by omega)))]
theorem shr_W (x : BitVec 32) (k : Nat) (hk : k < 8) : (x >>> (BitVec.ofNat 64 (8 * k)).toNat).setWidth 8 = byt x.toNat k := by
  apply BitVec.eq_of_toNat_eq
  rw [BitVec.toNat_ofNat, Nat.mod_eq_of_lt (show 8 * k < 2 ^ 64 by omega), BitVec.toNat_setWidth, BitVec.toNat_ushiftRight, Nat.shiftRight_eq_div_pow, byt_toNat]
theorem shr_U (x : BitVec 64) (k : Nat) (hk : k < 8) : (x >>> (BitVec.ofNat 64 (8 * k)).toNat).setWidth 8 = byt x.toNat k := by
  apply BitVec.eq_of_toNat_eq
  rw [BitVec.toNat_ofNat, Nat.mod_eq_of_lt (show 8 * k < 2 ^ 64 by omega), BitVec.toNat_setWidth, BitVec.toNat_ushiftRight, Nat.shiftRight_eq_div_pow, byt_toNat]
theorem sum_W (m n : BitVec 32) : (m.setWidth 64 + n.setWidth 64).toNat = m.toNat + n.toNat := by
  have := m.isLt; have := n.isLt
  rw [BitVec.toNat_add, BitVec.toNat_setWidth, BitVec.toNat_setWidth]; omega
theorem prod_W (m n : BitVec 32) : (m.setWidth 64 * n.setWidth 64).toNat = m.toNat * n.toNat := by
  have h1 := m.isLt
  have h2 := n.isLt
  have h3 : m.toNat * n.toNat ≤ (2 ^ 32 - 1) * (2 ^ 32 - 1) := Nat.mul_le_mul (by omega) (by omega)
  rw [BitVec.toNat_mul, BitVec.toNat_setWidth, BitVec.toNat_setWidth, Nat.mod_eq_of_lt (a := m.toNat) (by omega), Nat.mod_eq_of_lt (a := n.toNat) (by omega), Nat.mod_eq_of_lt (by omega)]
theorem byt_start (n : Nat) : byt (n % 2 ^ (8 * 0)) = fun _ => 0 := by rw [Nat.mul_zero, Nat.pow_zero, Nat.mod_one, byt_zero]
theorem natB_part (n : Nat) (h : n < 2 ^ 64) : natB (byt (n % 2 ^ (8 * 8))) 32 = n := by
  rw [natB_byt, Nat.mod_eq_of_lt (a := n) h, Nat.mod_eq_of_lt (Nat.lt_trans h (by decide))]
theorem natB_none : natB (fun _ => 0#8) 32 = 0 := by decide
theorem Tw.ratio1 {x y : Nat → BitVec 64} {m n : Nat} (hx : Tw x m) (hy : Tw y n) : Tw (ratioX x y).1 (ratioN m n).1 := (Tw.ratio hx hy).1
theorem sums1 (N : Nat) (m n : BitVec 32) : pw N (natB (byt (m.toNat % 2 ^ (8 * 8))) 32) * pw N (natB (byt (n.toNat % 2 ^ (8 * 8))) 32) % pP = pw N (natB (byt ((m.setWidth 64 + n.setWidth 64).toNat % 2 ^ (8 * 8))) 32) := by
  rw [natB_part _ (Nat.lt_trans m.isLt (by decide)), natB_part _ (Nat.lt_trans n.isLt (by decide)), natB_part _ (BitVec.isLt _), sum_W, pw_add]
theorem sums2 (N : Nat) (m n : BitVec 32) : pw (pw N (natB (byt (m.toNat % 2 ^ (8 * 8))) 32)) (natB (byt (n.toNat % 2 ^ (8 * 8))) 32) = pw N (natB (byt ((m.setWidth 64 * n.setWidth 64).toNat % 2 ^ (8 * 8))) 32) := by
  rw [natB_part _ (Nat.lt_trans m.isLt (by decide)), natB_part _ (Nat.lt_trans n.isLt (by decide)), natB_part _ (BitVec.isLt _), prod_W, pw_pw]
theorem sums3 (N : Nat) : pw N (natB (fun _ => 0#8) 32) = (1#64).toNat := by rw [natB_none, pw_zero]; rfl
end Go.Sym
