/-
  What the walks of chapter 6 compute, in the words of the plain laws. No program is in sight here.
-/
import Derived.Test.YtedlgmjpifokdaaRo2
import Derived.Test.YtedlgmjpifokdaaSymCall
namespace Go.Sym
open Go

theorem limb_nul : limb 0 = fun _ => 0 := by funext i; unfold limb; rw [Nat.zero_div]; rfl
theorem dig_nul : dig 0 = fun _ => 0 := by funext i; unfold dig; rw [Nat.zero_div]; rfl
theorem ofNat_toNat_lt {m : Nat} (h : m < 18446744073709551616) : (BitVec.ofNat 64 m).toNat = m := by rw [BitVec.toNat_ofNat]; omega
theorem shift2 (p : BitVec 64) : cU 4 (upd (fun _ => 0) 2 p) = cU 4 (limb (sqG p.toNat)) := by
  have e : natU (upd (fun _ => 0) 2 p) 4 = sqG p.toNat := by simp [natU, sumD, upd, sqG]
  rw [cU_limb (upd (fun _ => 0) 2 p), e]
theorem shift3 (p : BitVec 64) : cU 4 (upd (fun _ => 0) 3 p) = cU 4 (limb (cuG p.toNat)) := by
  have e : natU (upd (fun _ => 0) 3 p) 4 = cuG p.toNat := by simp [natU, sumD, upd, cuG]
  rw [cU_limb (upd (fun _ => 0) 3 p), e]
theorem sr80_yes {e G j : Nat} (h : (sr e G 80 j + 2 ^ (79 - j)) ^ e ≤ G) : sr e G 80 (j + 1) = sr e G 80 j + 2 ^ (79 - j) := sr_yes h
theorem sr80_no {e G j : Nat} (h : ¬ (sr e G 80 j + 2 ^ (79 - j)) ^ e ≤ G) : sr e G 80 (j + 1) = sr e G 80 j := sr_no h
theorem sr75_yes {e G j : Nat} (h : (sr e G 75 j + 2 ^ (74 - j)) ^ e ≤ G) : sr e G 75 (j + 1) = sr e G 75 j + 2 ^ (74 - j) := sr_yes h
theorem sr75_no {e G j : Nat} (h : ¬ (sr e G 75 j + 2 ^ (74 - j)) ^ e ≤ G) : sr e G 75 (j + 1) = sr e G 75 j := sr_no h
theorem sr80_bit (e G : Nat) {j : Nat} (h : j ≤ 79) : 2 ^ (79 - j + 1) ∣ sr e G 80 j := by
  have := sr_dvd e G 80 j (by omega)
  rwa [show 80 - j = 79 - j + 1 by omega] at this
theorem sr75_bit (e G : Nat) {j : Nat} (h : j ≤ 74) : 2 ^ (74 - j + 1) ∣ sr e G 75 j := by
  have := sr_dvd e G 75 j (by omega)
  rwa [show 75 - j = 74 - j + 1 by omega] at this
theorem sr80_lt (e G : Nat) {j : Nat} (h : j ≤ 79) : sr e G 80 j + 2 ^ (79 - j) < 2 ^ 80 := by
  have h1 := sr_le e G 80 j (by omega)
  have h2 := two_half (show j < 80 by omega)
  have h3 := Nat.two_pow_pos (79 - j)
  rw [show 80 - 1 - j = 79 - j by omega] at h2
  rw [h2] at h1
  generalize 2 ^ (79 - j) = x at *
  omega
theorem sr75_lt (e G : Nat) {j : Nat} (h : j ≤ 74) : sr e G 75 j + 2 ^ (74 - j) < 2 ^ 75 := by
  have h1 := sr_le e G 75 j (by omega)
  have h2 := two_half (show j < 75 by omega)
  have h3 := Nat.two_pow_pos (74 - j)
  rw [show 75 - 1 - j = 74 - j by omega] at h2
  rw [h2] at h1
  generalize 2 ^ (74 - j) = x at *
  omega
theorem sq_lt {x n m : Nat} (h : x < 2 ^ n) (hm : n + n ≤ m) : x * x < 2 ^ m := by
  refine Nat.lt_of_lt_of_le ?_ (Nat.pow_le_pow_right (by decide) hm)
  rw [Nat.pow_add]
  exact Nat.mul_lt_mul_of_lt_of_le h (Nat.le_of_lt h) (Nat.two_pow_pos _)
theorem mul_lt {x y n k m : Nat} (h : x < 2 ^ n) (hy : y < 2 ^ k) (hm : n + k ≤ m) : x * y < 2 ^ m := by
  refine Nat.lt_of_lt_of_le ?_ (Nat.pow_le_pow_right (by decide) hm)
  rw [Nat.pow_add]
  exact Nat.mul_lt_mul_of_lt_of_le h (Nat.le_of_lt hy) (Nat.two_pow_pos _)
theorem sq_whole {x : Nat} (h : x < 2 ^ 80) : x * x % 2 ^ (64 * 4) = x ^ 2 := by
  rw [Nat.mod_eq_of_lt (sq_lt h (by decide)), Nat.pow_two]
theorem cu_whole {x : Nat} (h : x < 2 ^ 75) : x * x % 2 ^ (64 * 4) * x % 2 ^ (64 * 4) = x ^ 3 := by
  rw [Nat.mod_eq_of_lt (sq_lt h (by decide)), Nat.mod_eq_of_lt (mul_lt (sq_lt h (Nat.le_refl _)) h (by decide)), Nat.pow_succ, Nat.pow_two]
theorem lt_256 {x n : Nat} (h : x < 2 ^ n) (hn : n ≤ 64 * 4) : x < 2 ^ (64 * 4) := Nat.lt_of_lt_of_le h (Nat.pow_le_pow_right (by decide) hn)
theorem lt_16 {x n m : Nat} (h : x < 2 ^ n) (hn : n ≤ 16 * m) : x < 2 ^ (16 * m) := Nat.lt_of_lt_of_le h (Nat.pow_le_pow_right (by decide) hn)
theorem sqG_160 {p : Nat} (h : p < 4294967296) : sqG p < 2 ^ 160 := sqG_lt h
theorem cuG_225 {p : Nat} (h : p < 4294967296) : cuG p < 2 ^ 225 := cuG_lt h
theorem sqU_yes {p : BitVec 64} (h : p.toNat < 4294967296) : sqU p = BitVec.ofNat 64 (rt 2 (sqG p.toNat)) := if_pos h
theorem sqU_no {p : BitVec 64} (h : ¬ p.toNat < 4294967296) : sqU p = 0#64 := if_neg h
theorem cuU_yes {p : BitVec 64} (h : p.toNat < 4294967296) : cuU p = BitVec.ofNat 64 (rt 3 (cuG p.toNat)) := if_pos h
theorem cuU_no {p : BitVec 64} (h : ¬ p.toNat < 4294967296) : cuU p = 0#64 := if_neg h
theorem sq_end {p : BitVec 64} (h : p.toNat < 4294967296) : limb (sr 2 (sqG p.toNat) 80 80) 0 = sqU p := by rw [sqU_yes h]; exact limb_first _
theorem cu_end {p : BitVec 64} (h : p.toNat < 4294967296) : limb (sr 3 (cuG p.toNat) 75 75) 0 = cuU p := by rw [cuU_yes h, ← sr_75 (cuG_lt h)]; exact limb_first _
theorem rsq_end {p : BitVec 64} (h : p.toNat < 4294967296) : dig (sr 2 (sqG p.toNat) 80 80) 0 + dig (sr 2 (sqG p.toNat) 80 80) 1 <<< 16 + dig (sr 2 (sqG p.toNat) 80 80) 2 <<< 32 + dig (sr 2 (sqG p.toNat) 80 80) 3 <<< 48 = sqU p := by rw [sqU_yes h]; exact four_digits _
theorem rcu_end {p : BitVec 64} (h : p.toNat < 4294967296) : dig (sr 3 (cuG p.toNat) 80 80) 0 + dig (sr 3 (cuG p.toNat) 80 80) 1 <<< 16 + dig (sr 3 (cuG p.toNat) 80 80) 2 <<< 32 + dig (sr 3 (cuG p.toNat) 80 80) 3 <<< 48 = cuU p := by rw [cuU_yes h]; exact four_digits _
theorem bit_add' {n i u : Nat} (h : 2 ^ (i + 1) ∣ n) (hu : u = i % 16) : upd (dig n) (i / 16) (dig n (i / 16) + 1#64 <<< u) = dig (n + 2 ^ i) := by subst hu; exact bit_add h
theorem bit_sub' {n i u : Nat} (h : 2 ^ (i + 1) ∣ n) (hu : u = i % 16) : upd (dig (n + 2 ^ i)) (i / 16) (dig (n + 2 ^ i) (i / 16) - 1#64 <<< u) = dig n := by rw [← bit_add' h hu, bit_back]
theorem digits_of (n k : Nat) (_h : n < 2 ^ (16 * k)) (f : Nat → BitVec 64) (hf : ∀ i, i < k → (f i).toNat = n / 2 ^ (16 * i) % 2 ^ 16) : cU k f = cU k (dig n) := cU_congr fun i hi => BitVec.eq_of_toNat_eq (by rw [hf i hi, dig_toNat])
theorem goal_cells (p : BitVec 64) (hp : p.toNat < 4294967296) (m : Nat) : cU m (fun _ => 0#64) ++ [U (p &&& 65535#64), U (p >>> 16)] = cU (m + 2) (dig (p.toNat * 2 ^ (16 * m))) := by
  unfold cU cells
  rw [show m + 2 = m + 1 + 1 by omega, List.range_succ, List.range_succ, List.map_append, List.map_append, List.append_assoc]
  have e1 : dig (p.toNat * 2 ^ (16 * m)) m = p &&& 65535#64 := by
    apply BitVec.eq_of_toNat_eq
    rw [dig_toNat, Nat.mul_div_cancel _ (Nat.two_pow_pos _), and_16]
  have e2 : dig (p.toNat * 2 ^ (16 * m)) (m + 1) = p >>> 16 := by
    apply BitVec.eq_of_toNat_eq
    rw [dig_toNat, show 16 * (m + 1) = 16 * m + 16 by omega, Nat.pow_add, ← Nat.div_div_eq_div_mul, Nat.mul_div_cancel _ (Nat.two_pow_pos _), BitVec.toNat_ushiftRight, Nat.shiftRight_eq_div_pow, Nat.mod_eq_of_lt (by omega)]
  have e3 : List.map (fun i => U ((fun _ => 0#64) i)) (List.range m) = List.map (fun i => U (dig (p.toNat * 2 ^ (16 * m)) i)) (List.range m) := by
    refine List.map_congr_left fun i hi => ?_
    have hi' := List.mem_range.1 hi
    congr 1
    apply BitVec.eq_of_toNat_eq
    obtain ⟨d, hd⟩ : ∃ d, m = i + (d + 1) := ⟨m - i - 1, by omega⟩
    rw [dig_toNat, hd, show 16 * (i + (d + 1)) = 16 * i + (16 * d + 16) by omega, Nat.pow_add, Nat.mul_left_comm, Nat.mul_div_cancel_left _ (Nat.two_pow_pos _), Nat.pow_add, ← Nat.mul_assoc, Nat.mul_mod_left]
    rfl
  rw [e3]
  simp only [List.map_cons, List.map_nil, e1, e2, List.cons_append, List.nil_append]
theorem goal8 {p : BitVec 64} (hp : p.toNat < 4294967296) : cU 8 (fun _ => 0#64) ++ [U (p &&& 65535#64), U (p >>> 16)] = cU 10 (dig (sqG p.toNat)) := goal_cells p hp 8
theorem goal12 {p : BitVec 64} (hp : p.toNat < 4294967296) : cU 12 (fun _ => 0#64) ++ [U (p &&& 65535#64), U (p >>> 16)] = cU 14 (dig (cuG p.toNat)) := goal_cells p hp 12
theorem own_row {b m m0 : Nat} {f : Nat → BitVec 64} {el : TypeId} (hb : m0 ≤ b) : Own m0 el (.slice (some ⟨b, 0, none⟩) m m) (cU m f) [⟨b, el, cU m f⟩] := by
  have := Own.row (e := el) (cU m f) hb
  rwa [cells_len] at this
theorem lt_more {A m n : Nat} (h : A < 2 ^ (16 * m)) (hn : m ≤ n) : A < 2 ^ (16 * n) := Nat.lt_of_lt_of_le h (Nat.pow_le_pow_right (by decide) (by omega))
theorem cube_of (x : Nat) : x ^ 3 = x * x * x := by rw [Nat.pow_succ, Nat.pow_two]
theorem cuG_224 {p : Nat} (h : p < 4294967296) : cuG p < 2 ^ (16 * 14) := by
  unfold cuG
  exact Nat.lt_of_lt_of_le ((Nat.mul_lt_mul_right (by decide)).2 h) (by decide)
theorem own_rd {m0 m : Nat} {e : TypeId} {v : Value} {f : Nat → BitVec 64} {w0 w : World} {L Lx : List Blk} (h : Own m0 e v (cU m f) Lx) (hM : Mem w0 w (L ++ Lx)) : Rd w v m (fun i => U (f i)) := h.rdCells hM
theorem dC_nul (P a B i : Nat) : U 0#64 = U (dC P a B i 0) := by rw [dC_zero]
theorem wC_nul (P a B i : Nat) : U 0#64 = U (wC P a B i 0) := by rw [wC_zero]

/-! ### the roots of squares and cubes, and between them -/
theorem sq_is {a : Nat} (h : a < 65536) : rt 2 (sqG (a * a)) = a * 2 ^ 64 := by
  refine rt_is (by decide) (sqG_lt ?_) (Nat.le_of_eq ?_) ?_
  · have := Nat.mul_le_mul (show a ≤ 65535 by omega) (show a ≤ 65535 by omega); omega
  · unfold sqG; rw [Nat.mul_pow, Nat.pow_two, ← Nat.pow_mul]
  · unfold sqG
    have e : a * a * 2 ^ 128 = (a * 2 ^ 64) ^ 2 := by rw [Nat.mul_pow, Nat.pow_two, ← Nat.pow_mul]
    rw [e]
    exact Nat.pow_lt_pow_left (by omega) (by decide)
theorem cu_is {b : Nat} (h : b < 1024) : rt 3 (cuG (b * b * b)) = b * 2 ^ 64 := by
  have cube : ∀ x : Nat, x ^ 3 = x * x * x := fun x => by rw [Nat.pow_succ, Nat.pow_two]
  have e : b * b * b * 2 ^ 192 = (b * 2 ^ 64) ^ 3 := by rw [Nat.mul_pow, cube b, ← Nat.pow_mul]
  refine rt_is (by decide) (cuG_lt80 ?_) (Nat.le_of_eq ?_) ?_
  · have h1 := Nat.mul_le_mul (show b ≤ 1023 by omega) (show b ≤ 1023 by omega)
    have := Nat.mul_le_mul h1 (show b ≤ 1023 by omega); omega
  · unfold cuG; rw [e]
  · unfold cuG
    rw [e]
    exact Nat.pow_lt_pow_left (by omega) (by decide)
theorem whole_zero (a : Nat) : BitVec.ofNat 64 (a * 2 ^ 64) = 0#64 := by
  apply BitVec.eq_of_toNat_eq
  rw [BitVec.toNat_ofNat, Nat.mul_mod_left]
  rfl
theorem and_toNat16 (n : BitVec 64) : (n &&& 65535#64).toNat < 65536 := by rw [and_16]; omega
theorem and_toNat10 (n : BitVec 64) : (n &&& 1023#64).toNat < 1024 := by
  rw [BitVec.toNat_and, show (1023#64 : BitVec 64).toNat = 2 ^ 10 - 1 from rfl, Nat.and_two_pow_sub_one_eq_mod]; omega
theorem whole_sq (n : BitVec 64) : sqU ((n &&& 65535#64) * (n &&& 65535#64)) = 0#64 := by
  have h := and_toNat16 n
  generalize n &&& 65535#64 = a at h
  have h2 := Nat.mul_le_mul (show a.toNat ≤ 65535 by omega) (show a.toNat ≤ 65535 by omega)
  have e : (a * a).toNat = a.toNat * a.toNat := by rw [BitVec.toNat_mul, Nat.mod_eq_of_lt (by omega)]
  rw [sqU_yes (by omega), e, sq_is h, whole_zero]
theorem whole_cu (n : BitVec 64) : cuU ((n &&& 1023#64) * (n &&& 1023#64) * (n &&& 1023#64)) = 0#64 := by
  have h := and_toNat10 n
  generalize n &&& 1023#64 = a at h
  have h2 := Nat.mul_le_mul (show a.toNat ≤ 1023 by omega) (show a.toNat ≤ 1023 by omega)
  have h3 := Nat.mul_le_mul h2 (show a.toNat ≤ 1023 by omega)
  have e : (a * a * a).toNat = a.toNat * a.toNat * a.toNat := by rw [BitVec.toNat_mul, BitVec.toNat_mul, Nat.mod_eq_of_lt (a := a.toNat * a.toNat) (by omega), Nat.mod_eq_of_lt (by omega)]
  rw [cuU_yes (by omega), e, cu_is h, whole_zero]
theorem great (n : BitVec 64) : ¬ (n ||| 4294967296#64).toNat < 4294967296 := fun h => by
  have h1 : (n ||| 4294967296#64).toNat.testBit 32 = true := by
    rw [BitVec.toNat_or, Nat.testBit_or]
    rw [show (4294967296#64 : BitVec 64).toNat.testBit 32 = true by decide +kernel, Bool.or_true]
  have := Nat.testBit_lt_two_pow (i := 32) h
  rw [this] at h1
  cases h1
theorem great_sq (n : BitVec 64) : sqU (n ||| 4294967296#64) = 0#64 := sqU_no (great n)
theorem great_cu (n : BitVec 64) : cuU (n ||| 4294967296#64) = 0#64 := cuU_no (great n)
theorem frac_lt {a R S : Nat} (h1 : a * 2 ^ 64 ≤ R) (h2 : S < (a + 1) * 2 ^ 64) (h3 : R < S) : (BitVec.ofNat 64 R).toNat < (BitVec.ofNat 64 S).toNat := by
  rw [BitVec.toNat_ofNat, BitVec.toNat_ofNat]
  rw [Nat.add_mul] at h2
  have e : ∀ x, a * 2 ^ 64 ≤ x → x < a * 2 ^ 64 + 1 * 2 ^ 64 → x % 2 ^ 64 = x - a * 2 ^ 64 := by
    intro x hx1 hx2
    obtain ⟨y, rfl⟩ : ∃ y, x = a * 2 ^ 64 + y := ⟨x - a * 2 ^ 64, by omega⟩
    rw [Nat.add_comm, Nat.add_mul_mod_self_right, Nat.mod_eq_of_lt (by omega)]
    omega
  rw [e R h1 (by omega), e S (by omega) h2]
  omega
theorem ge_of_pow {e x y : Nat} (_he : 0 < e) (h : x ^ e < (y + 1) ^ e) : x ≤ y := by
  rcases Nat.lt_or_ge y x with q | q
  · have := Nat.pow_le_pow_left (show y + 1 ≤ x from q) e; omega
  · exact q
theorem near_sq {a p : Nat} (ha : a < 65535) (h1 : a * a ≤ p) (h2 : p + 1 ≤ a * a + 2 * a) : (BitVec.ofNat 64 (rt 2 (sqG p))).toNat < (BitVec.ofNat 64 (rt 2 (sqG (p + 1)))).toNat := by
  have hb := Nat.mul_le_mul (show a ≤ 65534 by omega) (show a ≤ 65534 by omega)
  have hp : p + 1 < 4294967296 := by omega
  have lo1 := rt_lo (e := 2) (by decide) (sqG p)
  have hi2 := rt_hi (e := 2) (sqG_lt hp)
  have lo2 := rt_lo (e := 2) (by decide) (sqG (p + 1))
  have hi1 := rt_hi (e := 2) (sqG_lt (show p < 4294967296 by omega))
  have hl := rt_lt (e := 2) (G := sqG p) (by decide) 80 (sqG_lt (by omega))
  refine frac_lt (a := a) ?_ ?_ ?_
  · refine ge_of_pow (e := 2) (by decide) (Nat.lt_of_le_of_lt ?_ hi1)
    unfold sqG
    rw [Nat.mul_pow, Nat.pow_two, ← Nat.pow_mul]
    exact Nat.mul_le_mul_right _ h1
  · rcases Nat.lt_or_ge (rt 2 (sqG (p + 1))) ((a + 1) * 2 ^ 64) with q | q
    · exact q
    · exfalso
      have h3 := Nat.le_trans (Nat.pow_le_pow_left q 2) lo2
      unfold sqG at h3
      rw [Nat.mul_pow, Nat.pow_two, ← Nat.pow_mul] at h3
      have h4 : (a + 1) * (a + 1) ≤ p + 1 := Nat.le_of_mul_le_mul_right h3 (by decide)
      rw [Nat.add_mul, Nat.mul_add] at h4
      omega
  · refine ge_of_pow (e := 2) (by decide) (Nat.lt_of_le_of_lt ?_ hi2)
    generalize rt 2 (sqG p) = R at *
    have e : (R + 1) ^ 2 = R ^ 2 + 2 * R + 1 := by rw [Nat.pow_two, Nat.pow_two, Nat.add_mul, Nat.mul_add]; omega
    have e2 : sqG (p + 1) = sqG p + 2 ^ 128 := by unfold sqG; rw [Nat.add_mul, Nat.one_mul]
    rw [show R.succ = R + 1 from rfl, e, e2]
    omega
theorem near_cu {b p : Nat} (hb : b < 1023) (h1 : b * b * b ≤ p) (h2 : p + 1 ≤ b * b * b + 3 * b) : (BitVec.ofNat 64 (rt 3 (cuG p))).toNat < (BitVec.ofNat 64 (rt 3 (cuG (p + 1)))).toNat := by
  have hb2 := Nat.mul_le_mul (show b ≤ 1022 by omega) (show b ≤ 1022 by omega)
  have hb3 := Nat.mul_le_mul hb2 (show b ≤ 1022 by omega)
  have hp : p + 1 < 4294967296 := by omega
  have lo1 := rt_lo (e := 3) (by decide) (cuG p)
  have hi2 := rt_hi (e := 3) (cuG_lt80 hp)
  have lo2 := rt_lo (e := 3) (by decide) (cuG (p + 1))
  have hi1 := rt_hi (e := 3) (cuG_lt80 (show p < 4294967296 by omega))
  have hl := rt_lt (e := 3) (G := cuG p) (by decide) 75 (cuG_lt (by omega))
  have cube : ∀ x : Nat, x ^ 3 = x * x * x := fun x => by rw [Nat.pow_succ, Nat.pow_two]
  refine frac_lt (a := b) ?_ ?_ ?_
  · refine ge_of_pow (e := 3) (by decide) (Nat.lt_of_le_of_lt ?_ hi1)
    unfold cuG
    rw [Nat.mul_pow, cube b, ← Nat.pow_mul]
    exact Nat.mul_le_mul_right _ h1
  · rcases Nat.lt_or_ge (rt 3 (cuG (p + 1))) ((b + 1) * 2 ^ 64) with q | q
    · exact q
    · exfalso
      have h3 := Nat.le_trans (Nat.pow_le_pow_left q 3) lo2
      unfold cuG at h3
      rw [Nat.mul_pow, cube (b + 1), ← Nat.pow_mul] at h3
      have h4 : (b + 1) * (b + 1) * (b + 1) ≤ p + 1 := Nat.le_of_mul_le_mul_right h3 (by decide)
      have e : (b + 1) * (b + 1) * (b + 1) = b * b * b + 3 * (b * b) + 3 * b + 1 := by grind
      omega
  · refine ge_of_pow (e := 3) (by decide) (Nat.lt_of_le_of_lt ?_ hi2)
    generalize rt 3 (cuG p) = R at *
    have e : (R + 1) ^ 3 = R ^ 3 + 3 * (R * R) + 3 * R + 1 := by rw [cube, cube]; grind
    have e2 : cuG (p + 1) = cuG p + 2 ^ 192 := by unfold cuG; rw [Nat.add_mul, Nat.one_mul]
    have hRR := sq_lt hl (m := 150) (by decide)
    rw [show R.succ = R + 1 from rfl, e, e2]
    omega
end Go.Sym
