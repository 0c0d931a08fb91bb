/-
  Decimal digits of whole numbers as bytes; the count of bits and of digits. No program is in sight here.
-/
import Derived.Test.YtbfiaoemoookcaaDoorSymFmt
namespace Go.Sym
open Go

def dsF : Nat → Nat → List UInt8
  | 0, n => [UInt8.ofNat (48 + n % 10)]
  | k + 1, n => if n < 10 then [UInt8.ofNat (48 + n % 10)] else dsF k (n / 10) ++ [UInt8.ofNat (48 + n % 10)]
/-- The decimal digits of a number. -/
def ds (n : Nat) : List UInt8 := dsF 24 n
theorem dsF_step : ∀ (k n : Nat), n < 10 ^ (k + 1) → dsF (k + 1) n = dsF k n
  | 0, n, h => by
    have : n < 10 := h
    unfold dsF; rw [if_pos this]
  | k + 1, n, h => by
    show (if n < 10 then _ else dsF (k + 1) (n / 10) ++ _) = (if n < 10 then _ else dsF k (n / 10) ++ _)
    by_cases h1 : n < 10
    · rw [if_pos h1, if_pos h1]
    · rw [if_neg h1, if_neg h1]
      have : n / 10 < 10 ^ (k + 1) := by rw [Nat.div_lt_iff_lt_mul (by decide), ← Nat.pow_succ]; exact h
      rw [dsF_step k _ this]
theorem ds_small {n : Nat} (h : n < 10) : ds n = [UInt8.ofNat (48 + n % 10)] := by unfold ds dsF; rw [if_pos h]
theorem ds_step {n : Nat} (h : 10 ≤ n) (hb : n < 1000000000000000000000000) : ds n = ds (n / 10) ++ [UInt8.ofNat (48 + n % 10)] := by
  show dsF (23 + 1) n = dsF (23 + 1) (n / 10) ++ _
  rw [dsF_step 23 (n / 10) (by show n / 10 < 1000000000000000000000000; omega), dsF, if_neg (by omega)]
def dg (n k : Nat) : BitVec 8 := BitVec.ofNat 8 (48 + n / 10 ^ k % 10)
theorem dg_step (n k : Nat) : dg n (k + 1) = dg (n / 10) k := by
  unfold dg
  rw [Nat.pow_succ, Nat.mul_comm, ← Nat.div_div_eq_div_mul]
theorem bl_succ (m : Nat) (f : Nat → BitVec 8) : bl (m + 1) f = bl m f ++ [UInt8.ofNat (f m).toNat] := by
  unfold bl; rw [List.range_succ, List.map_append]; rfl
theorem dg_zero (n : Nat) : UInt8.ofNat (dg n 0).toNat = UInt8.ofNat (48 + n % 10) := by
  unfold dg
  rw [Nat.pow_zero, Nat.div_one, BitVec.toNat_ofNat, Nat.mod_eq_of_lt (by omega)]
theorem bl_ds : ∀ (d n : Nat), d < 23 → n < 10 ^ (d + 1) → (d = 0 ∨ 10 ^ d ≤ n) → bl (d + 1) (fun i => dg n (d - i)) = ds n
  | 0, n, _, h, _ => by
    rw [ds_small h, bl_succ]
    show [] ++ [UInt8.ofNat (dg n 0).toNat] = _
    rw [dg_zero]; rfl
  | d + 1, n, hd, h, h2 => by
    have h3 : 10 ^ (d + 1) ≤ n := by rcases h2 with h2 | h2; omega; exact h2
    have h10 : 10 ≤ n := Nat.le_trans (by rw [Nat.pow_succ]; have := Nat.pow_pos (n := d) (show 0 < 10 by decide); omega) h3
    have hb : n < 1000000000000000000000000 := Nat.lt_of_lt_of_le h (show 10 ^ (d + 1 + 1) ≤ 10 ^ 24 from Nat.pow_le_pow_right (by decide) (by omega))
    rw [ds_step h10 hb, bl_succ, ← bl_ds d (n / 10) (by omega) (by rw [Nat.div_lt_iff_lt_mul (by decide), ← Nat.pow_succ]; exact h) (by
      right; rw [Nat.le_div_iff_mul_le (by decide), ← Nat.pow_succ]; exact h3)]
    congr 1
    · refine bl_congr fun i hi => ?_
      show dg n (d + 1 - i) = dg (n / 10) (d - i)
      rw [show d + 1 - i = (d - i) + 1 by omega, dg_step]
    · show [UInt8.ofNat (dg n (d + 1 - (d + 1))).toNat] = _
      rw [Nat.sub_self, dg_zero]
/-- Cells of which those from p to d hold the digits of n already. -/
def mk (n d p : Nat) (f : Nat → BitVec 8) : Nat → BitVec 8 := fun i => if p ≤ i ∧ i < d then dg n (d - 1 - i) else f i
def At (n d p q : Nat) : Prop := p ≤ d ∧ q = n / 10 ^ (d - p)
theorem At.start (n d : Nat) : At n d d n := ⟨Nat.le_refl _, by rw [Nat.sub_self, Nat.pow_zero, Nat.div_one]⟩
theorem mk_start (n d : Nat) (f : Nat → BitVec 8) : mk n d d f = f := by
  funext i; unfold mk; rw [if_neg (by omega)]
theorem At.dig {n d p q : Nat} (h : At n d (p + 1) q) : dg n (d - 1 - p) = BitVec.ofNat 8 (48 + q % 10) := by
  unfold dg; rw [h.2, show d - 1 - p = d - (p + 1) by omega]
theorem At.next {n d p q : Nat} (h : At n d (p + 1) q) : At n d p (q / 10) := by
  refine ⟨by have := h.1; omega, ?_⟩
  rw [h.2, Nat.div_div_eq_div_mul, ← Nat.pow_succ, show (d - (p + 1)).succ = d - p by have := h.1; omega]
theorem At.nat {n d p q m : Nat} (h : At n d (p + m) q) : At n d p (q / 10 ^ m) := by
  refine ⟨by have := h.1; omega, ?_⟩
  rw [h.2, Nat.div_div_eq_div_mul, ← Nat.pow_add, show d - (p + m) + m = d - p by have := h.1; omega]
theorem mk_one {n d p q : Nat} (h : At n d (p + 1) q) (f : Nat → BitVec 8) : upd (mk n d (p + 1) f) p (BitVec.ofNat 8 (48 + q % 10)) = mk n d p f := by
  funext i
  unfold upd mk
  by_cases hi : i = p
  · subst hi; rw [if_pos rfl, if_pos (by have := h.1; omega), h.dig]
  · rw [if_neg hi]
    by_cases h1 : p ≤ i ∧ i < d
    · rw [if_pos (by omega), if_pos h1]
    · rw [if_neg (by omega), if_neg h1]
theorem At.two {n d p q j : Nat} (h : At n d p q) (hj : j + 2 = p) : At n d j (q / 100) := by subst hj; exact At.nat (m := 2) h
/-- Two digits at a time. -/
theorem mk_two {n d p q c i j : Nat} (h : At n d p q) (hi : i + 1 = p) (hj : j + 2 = p) (f : Nat → BitVec 8) (hc : c = q % 100) :
    upd (upd (mk n d p f) i (BitVec.ofNat 8 (48 + c % 10))) j (BitVec.ofNat 8 (48 + c / 10)) = mk n d j f := by
  subst hc hj
  obtain rfl : i = j + 1 := by omega
  have e1 := mk_one (n := n) (d := d) (p := j + 1) (q := q) h f
  have e2 := mk_one (n := n) (d := d) (p := j) (q := q / 10) (At.next h) f
  rw [show q % 100 % 10 = q % 10 by omega, show q % 100 / 10 = q / 10 % 10 by omega]
  rw [show mk n d (j + 2) f = mk n d (j + 1 + 1) f from rfl, e1, e2]
theorem At.lt {n d p q m M : Nat} (h : At n d p q) (hn : n < 10 ^ d) (hp : p ≤ m) (hM : 10 ^ m = M) : q < M := by
  subst hM
  rw [h.2, Nat.div_lt_iff_lt_mul (Nat.pow_pos (by decide)), ← Nat.pow_add]
  exact Nat.lt_of_lt_of_le hn (Nat.pow_le_pow_right (by decide) (by have := h.1; omega))
theorem At.fin {n d p q : Nat} (_h : At n d p q) (hp : p = 0) (f : Nat → BitVec 8) : mk n d p f = mk n d 0 f := by rw [hp]
theorem At.last {n d p q : Nat} (h : At n d p q) (hp : p = 1) (hq : q < 10) (f : Nat → BitVec 8) : upd (mk n d p f) 0 (BitVec.ofNat 8 (48 + q)) = mk n d 0 f := by
  subst hp
  have := mk_one (p := 0) h f
  rwa [Nat.mod_eq_of_lt hq] at this
theorem bl_mk {n d : Nat} (f : Nat → BitVec 8) (h0 : 0 < d) (hd : d ≤ 20) (hn : n < 10 ^ d) (hl : 10 ^ (d - 1) ≤ n) : bl d (mk n d 0 f) = ds n := by
  obtain ⟨e, rfl⟩ : ∃ e, d = e + 1 := ⟨d - 1, by omega⟩
  rw [← bl_ds e n (by omega) hn (.inr hl)]
  refine bl_congr fun i hi => ?_
  unfold mk
  rw [if_pos ⟨Nat.zero_le _, hi⟩]; rfl
/-- The pairs of digits from 00 to 99. -/
def pairs : List UInt8 := [48, 48, 48, 49, 48, 50, 48, 51, 48, 52, 48, 53, 48, 54, 48, 55, 48, 56, 48, 57, 49, 48, 49, 49, 49, 50, 49, 51, 49, 52, 49, 53, 49, 54, 49, 55, 49, 56, 49, 57, 50, 48, 50, 49, 50, 50, 50, 51, 50, 52, 50, 53, 50, 54, 50, 55, 50, 56, 50, 57, 51, 48, 51, 49, 51, 50, 51, 51, 51, 52, 51, 53, 51, 54, 51, 55, 51, 56, 51, 57, 52, 48, 52, 49, 52, 50, 52, 51, 52, 52, 52, 53, 52, 54, 52, 55, 52, 56, 52, 57, 53, 48, 53, 49, 53, 50, 53, 51, 53, 52, 53, 53, 53, 54, 53, 55, 53, 56, 53, 57, 54, 48, 54, 49, 54, 50, 54, 51, 54, 52, 54, 53, 54, 54, 54, 55, 54, 56, 54, 57, 55, 48, 55, 49, 55, 50, 55, 51, 55, 52, 55, 53, 55, 54, 55, 55, 55, 56, 55, 57, 56, 48, 56, 49, 56, 50, 56, 51, 56, 52, 56, 53, 56, 54, 56, 55, 56, 56, 56, 57, 57, 48, 57, 49, 57, 50, 57, 51, 57, 52, 57, 53, 57, 54, 57, 55, 57, 56, 57, 57]
def sixs : List UInt8 := [48, 49, 50, 51, 52, 53, 54, 55, 56, 57, 97, 98, 99, 100, 101, 102, 103, 104, 105, 106, 107, 108, 109, 110, 111, 112, 113, 114, 115, 116, 117, 118, 119, 120, 121, 122]
def len8 : List UInt8 := [0, 1, 2, 2, 3, 3, 3, 3, 4, 4, 4, 4, 4, 4, 4, 4, 5, 5, 5, 5, 5, 5, 5, 5, 5, 5, 5, 5, 5, 5, 5, 5, 6, 6, 6, 6, 6, 6, 6, 6, 6, 6, 6, 6, 6, 6, 6, 6, 6, 6, 6, 6, 6, 6, 6, 6, 6, 6, 6, 6, 6, 6, 6, 6, 7, 7, 7, 7, 7, 7, 7, 7, 7, 7, 7, 7, 7, 7, 7, 7, 7, 7, 7, 7, 7, 7, 7, 7, 7, 7, 7, 7, 7, 7, 7, 7, 7, 7, 7, 7, 7, 7, 7, 7, 7, 7, 7, 7, 7, 7, 7, 7, 7, 7, 7, 7, 7, 7, 7, 7, 7, 7, 7, 7, 7, 7, 7, 7, 8, 8, 8, 8, 8, 8, 8, 8, 8, 8, 8, 8, 8, 8, 8, 8, 8, 8, 8, 8, 8, 8, 8, 8, 8, 8, 8, 8, 8, 8, 8, 8, 8, 8, 8, 8, 8, 8, 8, 8, 8, 8, 8, 8, 8, 8, 8, 8, 8, 8, 8, 8, 8, 8, 8, 8, 8, 8, 8, 8, 8, 8, 8, 8, 8, 8, 8, 8, 8, 8, 8, 8, 8, 8, 8, 8, 8, 8, 8, 8, 8, 8, 8, 8, 8, 8, 8, 8, 8, 8, 8, 8, 8, 8, 8, 8, 8, 8, 8, 8, 8, 8, 8, 8, 8, 8, 8, 8, 8, 8, 8, 8, 8, 8, 8, 8, 8, 8, 8, 8, 8, 8, 8, 8, 8, 8, 8, 8]
theorem pair_all : ∀ c : Fin 100, pairs[c.val * 2]?.map UInt8.toBitVec = some (BitVec.ofNat 8 (48 + c.val / 10)) ∧ pairs[c.val * 2 + 1]?.map UInt8.toBitVec = some (BitVec.ofNat 8 (48 + c.val % 10)) := by decide +kernel
theorem pair_hi {c : Nat} (h : c < 100) : pairs[c * 2]?.map UInt8.toBitVec = some (BitVec.ofNat 8 (48 + c / 10)) := (pair_all ⟨c, h⟩).1
theorem pair_lo {c : Nat} (h : c < 100) : pairs[c * 2 + 1]?.map UInt8.toBitVec = some (BitVec.ofNat 8 (48 + c % 10)) := (pair_all ⟨c, h⟩).2
theorem small_one : ∀ c : Fin 10, (sixs.drop c.val).take (c.val + 1 - c.val) = ds c.val := by decide +kernel
theorem small_two : ∀ c : Fin 100, 10 ≤ c.val → (pairs.drop (c.val * 2)).take (c.val * 2 + 2 - c.val * 2) = ds c.val := by decide +kernel
/-- The count of bits. -/
def Bits (n r : Nat) : Prop := n < 2 ^ r ∧ (r = 0 ∨ 2 ^ (r - 1) ≤ n)
def blen (n : Nat) : Nat := if n = 0 then 0 else n.log2 + 1
theorem bits_blen (n : Nat) : Bits n (blen n) := by
  unfold blen
  by_cases h : n = 0
  · subst h; exact ⟨by decide, .inl rfl⟩
  · rw [if_neg h]; exact ⟨Nat.lt_log2_self, .inr (by rw [Nat.add_sub_cancel]; exact Nat.log2_self_le h)⟩
theorem Bits.uniq {n r s : Nat} (h : Bits n r) (h' : Bits n s) : r = s := by
  rcases Nat.lt_trichotomy r s with q | q | q
  · rcases h'.2 with e | e
    · omega
    · have := Nat.pow_le_pow_right (show 0 < 2 by decide) (show r ≤ s - 1 by omega); have := h.1; omega
  · exact q
  · rcases h.2 with e | e
    · omega
    · have := Nat.pow_le_pow_right (show 0 < 2 by decide) (show s ≤ r - 1 by omega); have := h'.1; omega
theorem Bits.up {n s r : Nat} (h : Bits (n / 2 ^ s) r) (h0 : s = 0 ∨ 0 < n / 2 ^ s) : Bits n (s + r) := by
  refine ⟨?_, ?_⟩
  · have := h.1
    rw [Nat.div_lt_iff_lt_mul (Nat.two_pow_pos _), ← Nat.pow_add, Nat.add_comm r s] at this
    exact this
  · rcases h.2 with e | e
    · subst e
      have h1 := h.1
      rw [Nat.pow_zero] at h1
      rcases h0 with h0 | h0
      · left; omega
      · omega
    · by_cases hr : r = 0
      · subst hr
        have h1 := h.1
        rw [Nat.pow_zero] at h1
        have : 1 ≤ n / 2 ^ s := e
        omega
      · right
        rw [Nat.le_div_iff_mul_le (Nat.two_pow_pos _), ← Nat.pow_add] at e
        rw [show s + r - 1 = r - 1 + s by omega]
        exact e
theorem len8_all : ∀ c : Fin 256, len8[c.val]?.map UInt8.toBitVec = some (BitVec.ofNat 8 (blen c.val)) := by decide +kernel
theorem blen8 : ∀ c : Fin 256, blen c.val < 256 := by decide +kernel
theorem len8_at {c : Nat} (h : c < 256) : len8[c]?.map UInt8.toBitVec = some (BitVec.ofNat 8 (blen c)) := len8_all ⟨c, h⟩
theorem blen_up {n s : Nat} (h0 : s = 0 ∨ 0 < n / 2 ^ s) : s + blen (n / 2 ^ s) = blen n := ((bits_blen (n / 2 ^ s)).up h0).uniq (bits_blen n)
theorem len8_byte {c : Nat} (h : c < 256) : len8[(BitVec.ofNat 8 c).toNat]?.map UInt8.toBitVec = some (BitVec.ofNat 8 (blen c)) := by rw [BitVec.toNat_ofNat, Nat.mod_eq_of_lt h]; exact len8_at h
theorem blen_byte {c : Nat} (h : c < 256) : blen c < 256 := blen8 ⟨c, h⟩
theorem add_small {x y : Nat} (h : x ≤ 1000) (h' : y < 256) : x + y < 9223372036854775808 := by omega
theorem blen_eq {n s m D : Nat} (hD : 2 ^ s = D) (hm : m = n / D) (h0 : s = 0 ∨ 0 < m) : s + blen m = blen n := by subst hm hD; exact blen_up h0
/-- The count of digits. -/
def l10 (b : Nat) : Nat := b * 78913 / 262144
def nd (n : Nat) : Nat := l10 (blen n) + (if 10 ^ l10 (blen n) ≤ n then 1 else 0)
theorem l10_all : ∀ b : Fin 65, 2 ^ b.val ≤ 10 ^ (l10 b.val + 1) ∧ l10 b.val < 20 ∧ (b.val = 0 ∨ l10 b.val = 0 ∨ 10 ^ (l10 b.val - 1) ≤ 2 ^ (b.val - 1)) := by decide +kernel
theorem blen_le {n : Nat} (h : n < 18446744073709551616) : blen n ≤ 64 := by
  rcases Nat.lt_or_ge 64 (blen n) with q | q
  · rcases (bits_blen n).2 with e | e
    · omega
    · have := Nat.pow_le_pow_right (show 0 < 2 by decide) (show 64 ≤ blen n - 1 by omega)
      omega
  · exact q
theorem l10_lt {n : Nat} (h : n < 18446744073709551616) : l10 (blen n) < 20 := (l10_all ⟨blen n, by have := blen_le h; omega⟩).2.1
theorem nd_spec {n : Nat} (h : n < 18446744073709551616) (h0 : 0 < n) : nd n ≤ 20 ∧ 0 < nd n ∧ n < 10 ^ nd n ∧ 10 ^ (nd n - 1) ≤ n := by
  have hb := blen_le h
  obtain ⟨h1, h2, h3⟩ := l10_all ⟨blen n, by omega⟩
  have h4 := bits_blen n
  simp only at h1 h2 h3
  unfold nd
  generalize blen n = b at *
  by_cases hq : 10 ^ l10 b ≤ n
  · rw [if_pos hq]
    refine ⟨by omega, by omega, Nat.lt_of_lt_of_le h4.1 h1, by rw [Nat.add_sub_cancel]; exact hq⟩
  · rw [if_neg hq, Nat.add_zero]
    have hp : 0 < l10 b := by
      rcases Nat.eq_zero_or_pos (l10 b) with e | e
      · rw [e] at hq; omega
      · exact e
    refine ⟨by omega, hp, by omega, ?_⟩
    rcases h3 with e | e | e
    · rcases h4.2 with _ | _ <;> (subst e; have := h4.1; omega)
    · omega
    · rcases h4.2 with e' | e'
      · subst e'; have := h4.1; omega
      · exact Nat.le_trans e e'
/-- Thousandths: the whole part, a dot, three digits. -/
def th (n : Nat) : List UInt8 := ds (n / 1000) ++ [46] ++ [UInt8.ofNat (48 + n / 100 % 10), UInt8.ofNat (48 + n / 10 % 10), UInt8.ofNat (48 + n % 10)]
end Go.Sym
namespace Go.Sym
def tl (n : Nat) : List UInt8 := [UInt8.ofNat (48 + n / 100 % 10), UInt8.ofNat (48 + n / 10 % 10), UInt8.ofNat (48 + n % 10)]
theorem dsF_len : ∀ (k n : Nat), 1 ≤ (dsF k n).length ∧ (dsF k n).length ≤ k + 1
  | 0, _ => ⟨Nat.le_refl _, Nat.le_refl _⟩
  | k + 1, n => by
    unfold dsF
    by_cases h : n < 10
    · rw [if_pos h]; exact ⟨Nat.le_refl _, by show 1 ≤ k + 1 + 1; omega⟩
    · rw [if_neg h, List.length_append]
      have := dsF_len k (n / 10)
      show 1 ≤ _ + 1 ∧ _ + 1 ≤ k + 1 + 1
      omega
theorem ds_len (n : Nat) : 1 ≤ (ds n).length ∧ (ds n).length ≤ 25 := dsF_len 24 n
theorem ds_short (n : Nat) : (ds n).length ≤ 8388608 := by have := ds_len n; omega
theorem th_long {n : Nat} (h : 1000 ≤ n) (hb : n < 18446744073709551616) : ds n = ds (n / 1000) ++ tl n := by
  rw [ds_step (by omega) (by omega), ds_step (n := n / 10) (by omega) (by omega), ds_step (n := n / 10 / 10) (by omega) (by omega)]
  rw [show n / 10 / 10 / 10 = n / 1000 by omega, show n / 10 / 10 = n / 100 by omega]
  simp [tl]
theorem short_all : ∀ c : Fin 1000, (ds c.val).length ≤ 3 ∧ List.replicate (4 - (ds c.val).length) 48 ++ ds c.val = ds (c.val / 1000) ++ tl c.val := by decide +kernel
theorem th_short {n : Nat} (h : n < 1000) : List.replicate (4 - (ds n).length) 48 ++ ds n = ds (n / 1000) ++ tl n := (short_all ⟨n, h⟩).2
theorem long_len {n : Nat} (_ : n < 18446744073709551616) (h : ¬ (ds n).length ≤ 3) : 1000 ≤ n := by
  rcases Nat.lt_or_ge n 1000 with q | q
  · exact absurd (short_all ⟨n, q⟩).1 h
  · exact q
theorem short_len {n : Nat} (hb : n < 18446744073709551616) (h : (ds n).length ≤ 3) : n < 1000 := by
  rcases Nat.lt_or_ge n 1000 with q | q
  · exact q
  · rw [th_long q hb, List.length_append] at h
    have h1 := (ds_len (n / 1000)).1
    have h2 : (tl n).length = 3 := rfl
    omega
theorem tl_len (n : Nat) : (ds (n / 1000) ++ tl n).length = (ds (n / 1000)).length + 3 := by rw [List.length_append]; rfl
theorem tl_ge (n : Nat) : 3 ≤ (ds (n / 1000) ++ tl n).length := by rw [tl_len]; omega
theorem tl_lt (n : Nat) : (ds (n / 1000) ++ tl n).length < 9223372036854775808 := by rw [tl_len]; have := ds_len (n / 1000); omega
theorem part_len (n i j : Nat) : (((ds (n / 1000) ++ tl n).drop i).take j).length ≤ 8388608 := by
  rw [List.length_take, List.length_drop, tl_len]
  have := ds_len (n / 1000)
  omega
theorem part_dot (n i j : Nat) : (((ds (n / 1000) ++ tl n).drop i).take j ++ [46]).length ≤ 8388608 := by
  rw [List.length_append, List.length_take, List.length_drop, tl_len]
  have := ds_len (n / 1000)
  show _ + 1 ≤ _
  omega
theorem cut3 (A B : List UInt8) (hB : B.length = 3) : ((A ++ B).drop 0).take ((A ++ B).length - 3 - 0) ++ [46] ++ ((A ++ B).drop ((A ++ B).length - 3)).take ((A ++ B).length - ((A ++ B).length - 3)) = A ++ [46] ++ B := by
  have e : (A ++ B).length - 3 = A.length := by rw [List.length_append, hB]; omega
  rw [e, List.drop_zero, Nat.sub_zero, List.take_left', List.drop_left', List.take_of_length_le]
  · rw [List.length_append]; omega
  · rfl
  · rfl
theorem th_eq (n : Nat) : ((ds (n / 1000) ++ tl n).drop 0).take ((ds (n / 1000) ++ tl n).length - 3 - 0) ++ [46] ++ ((ds (n / 1000) ++ tl n).drop ((ds (n / 1000) ++ tl n).length - 3)).take ((ds (n / 1000) ++ tl n).length - ((ds (n / 1000) ++ tl n).length - 3)) = th n := cut3 _ _ rfl
def dig : List UInt8 := [48, 49, 50, 51, 52, 53, 54, 55, 56, 57]
theorem dig_all : ∀ c : Fin 10, (dig.drop c.val).take (c.val + 1 - c.val) = [UInt8.ofNat (48 + c.val)] := by decide +kernel
theorem dig_at (n : Nat) : (dig.drop (n % 10)).take (n % 10 + 1 - n % 10) = [UInt8.ofNat (48 + n % 10)] := dig_all ⟨n % 10, Nat.mod_lt _ (by decide)⟩
end Go.Sym
