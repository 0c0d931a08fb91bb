/-
  What the laws of chapter 8 come to. No program is in sight here.
-/
import Derived.Test.YtfojllcccncdbaaSha10
namespace Go.Sym
open Go

theorem of_sum (f : Nat → BitVec 8) (m : Nat) : (HS.zero.puts f m).sum.s = ovr iv (closed f m m) ((m + (1 + zc m + 8 + 8)) / 128) := by
  have h := HS.sum_at iv 0 (fun _ => 0) f m
  rw [Nat.mul_zero, Nat.zero_add] at h
  exact h
theorem zc_mod (n : Nat) : zc (n % 128) = zc n := by unfold zc; rw [Nat.mod_mod]
theorem from_sum (f : Nat → BitVec 8) : (loadH f).sum.s = ovr (loadS f) (cat (fun i => f (72 + i)) ((loadN f).toNat % 128) (closing (loadN f >>> 61) (loadN f <<< 3) (zc ((loadN f).toNat % 128)))) (((loadN f).toNat % 128 + (1 + zc ((loadN f).toNat % 128) + 8 + 8)) / 128) := by
  rw [(HS.base (loadH f)).sum, HS.sum_at]
  have e : 128 * ((loadN f).toNat / 128) + (loadN f).toNat % 128 = (loadN f).toNat := Nat.div_add_mod _ _
  have e2 : BitVec.ofNat 64 (loadN f).toNat = loadN f := by rw [BitVec.ofNat_toNat, BitVec.setWidth_eq]
  rw [zc_mod]
  show ovr (loadS f) (closed (fun i => f (72 + i)) ((loadN f).toNat % 128) (128 * ((loadN f).toNat / 128) + (loadN f).toNat % 128)) (((loadN f).toNat % 128 + (1 + zc (128 * ((loadN f).toNat / 128) + (loadN f).toNat % 128) + 8 + 8)) / 128) = _
  rw [e]
  unfold closed
  rw [e2]

/-! ### states that cannot be told apart by eight numbers -/
theorem rounds_like {k w s s' : Nat → BitVec 64} (h : ∀ i, i < 8 → s i = s' i) : ∀ t i, i < 8 → rounds k w s t i = rounds k w s' t i
  | 0, i, hi => h i hi
  | t + 1, i, hi => by
    have e := rounds_like (k := k) (w := w) h t
    show rnd _ _ _ i = rnd _ _ _ i
    unfold rnd
    rw [e 0 (by decide), e 1 (by decide), e 2 (by decide), e 3 (by decide), e 4 (by decide), e 5 (by decide), e 6 (by decide), e 7 (by decide)]
theorem sstep_like {s s' m : Nat → BitVec 64} (h : ∀ i, i < 8 → s i = s' i) : ∀ i, i < 8 → sstep s m i = sstep s' m i := fun i hi => by
  unfold sstep
  rw [sumTo_get, sumTo_get, if_pos hi, if_pos hi, rounds_like h 80 i hi, h i hi]
def HS.like (h g : HS) : Prop := (∀ i, i < 8 → h.s i = g.s i) ∧ h.n = g.n ∧ ∀ i, i < h.n % 128 → h.w i = g.w i
theorem HS.alike.like {h g : HS} (a : h.alike g) : h.like g := ⟨fun _ _ => by rw [a.1], a.2⟩
theorem HS.like.symm {h g : HS} (a : h.like g) : g.like h := ⟨fun i hi => (a.1 i hi).symm, a.2.1.symm, fun i hi => (a.2.2 i (by rw [a.2.1]; exact hi)).symm⟩
theorem HS.like.trans {h g k : HS} (a : h.like g) (b : g.like k) : h.like k := ⟨fun i hi => (a.1 i hi).trans (b.1 i hi), a.2.1.trans b.2.1, fun i hi => (a.2.2 i hi).trans (b.2.2 i (by rw [← a.2.1]; exact hi))⟩
theorem HS.like.put {h g : HS} (a : h.like g) (c : BitVec 8) : (h.put c).like (g.put c) := by
  obtain ⟨h1, h2, h3⟩ := a
  have hu : ∀ i, i ≤ h.n % 128 → upd h.w (h.n % 128) c i = upd g.w (h.n % 128) c i := fun i hi => by
    unfold upd
    by_cases e : i = h.n % 128
    · rw [if_pos e, if_pos e]
    · rw [if_neg e, if_neg e]; exact h3 i (by omega)
  unfold HS.put
  rw [← h2]
  by_cases e : (h.n + 1) % 128 = 0
  · rw [if_pos e, if_pos e, wordsTo_congr (k := 128) (f := upd h.w (h.n % 128) c) (g := upd g.w (h.n % 128) c) (fun i hi => hu i (by omega))]
    exact ⟨sstep_like h1, rfl, fun i hi => by have : i < (h.n + 1) % 128 := hi; omega⟩
  · rw [if_neg e, if_neg e]
    exact ⟨h1, rfl, fun i hi => by have : i < (h.n + 1) % 128 := hi; exact hu i (by omega)⟩
theorem HS.like.puts {h g : HS} (a : h.like g) (f : Nat → BitVec 8) : ∀ k, (h.puts f k).like (g.puts f k)
  | 0 => a
  | k + 1 => (HS.like.puts a f k).put (f k)
theorem HS.like.sum {h g : HS} (a : h.like g) : ∀ i, i < 8 → h.sum.s i = g.sum.s i := by
  unfold HS.sum HS.sum1
  rw [← a.2.1]
  exact (((((a.puts _ _).puts _ _).puts _ _).puts _ _)).1
theorem HS.like.mid {h g : HS} (a : h.like g) : midF h = midF g := by
  funext i
  unfold midF
  rw [← a.2.1]
  by_cases h1 : i < 64
  · rw [if_pos h1, if_pos h1]
    unfold flatB
    rw [a.1 (i / 8) (by omega)]
  · rw [if_neg h1, if_neg h1]
    split
    · rfl
    · split
      · exact a.2.2 _ (by omega)
      · rfl
theorem flat_like {s s' : Nat → BitVec 64} (h : ∀ i, i < 8 → s i = s' i) : ∀ i, i < 64 → flatB s i = flatB s' i := fun i hi => by
  unfold flatB
  rw [h (i / 8) (by omega)]

/-! ### a state told and taken again -/
theorem numTo_be (x : BitVec 64) : ∀ k, k ≤ 8 → (numTo (be x) k).toNat = x.toNat / 2 ^ (64 - 8 * k)
  | 0, _ => by
    show 0 = _
    rw [Nat.div_eq_of_lt x.isLt]
  | k + 1, hk => by
    have ih := numTo_be x k (by omega)
    show (numTo (be x) k <<< 8 ||| (be x k).setWidth 64).toNat = _
    have hx := x.isLt
    have hb : (be x k).toNat = x.toNat / 2 ^ (56 - 8 * k) % 2 ^ 8 := by
      unfold be
      rw [BitVec.toNat_setWidth, BitVec.toNat_ushiftRight, Nat.shiftRight_eq_div_pow]
    have e1 : x.toNat / 2 ^ (64 - 8 * k) = x.toNat / 2 ^ (56 - 8 * k) / 2 ^ 8 := by rw [Nat.div_div_eq_div_mul, ← Nat.pow_add, show 56 - 8 * k + 8 = 64 - 8 * k by omega]
    have hlt : x.toNat / 2 ^ (56 - 8 * k) < 2 ^ (8 + 8 * k) := Nat.div_lt_of_lt_mul (by rw [← Nat.pow_add, show 56 - 8 * k + (8 + 8 * k) = 64 by omega]; exact hx)
    have hle : 2 ^ (8 + 8 * k) ≤ 2 ^ 64 := Nat.pow_le_pow_right (by decide) (by omega)
    rw [BitVec.toNat_or, BitVec.toNat_shiftLeft, BitVec.toNat_setWidth, hb, ih, e1, show 64 - 8 * (k + 1) = 56 - 8 * k by omega]
    generalize x.toNat / 2 ^ (56 - 8 * k) = y at hlt ⊢
    have hy : y < 2 ^ 64 := Nat.lt_of_lt_of_le hlt hle
    have hs : (y / 2 ^ 8) <<< 8 = y / 2 ^ 8 * 2 ^ 8 := Nat.shiftLeft_eq _ _
    rw [Nat.mod_eq_of_lt (show (y / 2 ^ 8) <<< 8 < 2 ^ 64 by rw [hs]; omega), Nat.mod_eq_of_lt (show y % 2 ^ 8 < 2 ^ 64 by omega), ← Nat.shiftLeft_add_eq_or_of_lt (Nat.mod_lt _ (by decide)), hs]
    omega
theorem num_be (x : BitVec 64) : num (be x) = x := by
  apply BitVec.eq_of_toNat_eq
  unfold num
  rw [numTo_be x 8 (Nat.le_refl _)]
  simp
theorem load_mid_n (h : HS) (hn : h.n < 18446744073709551616) : (loadN (midF h)).toNat = h.n := by
  have e : num (fun j => midF h (64 + j)) = num (be (BitVec.ofNat 64 h.n)) := numTo_congr fun i hi => by
    unfold midF
    rw [if_neg (by omega), if_pos (by omega), show 64 + i - 64 = i by omega]
  have hN : loadN (midF h) = BitVec.ofNat 64 h.n := e.trans (num_be _)
  rw [hN, BitVec.toNat_ofNat]
  exact Nat.mod_eq_of_lt hn
theorem load_mid (h : HS) (hn : h.n < 18446744073709551616) : (loadH (midF h)).like h := by
  have hN := load_mid_n h hn
  refine ⟨fun i hi => ?_, hN, fun i hi => ?_⟩
  · have e : num (fun j => midF h (8 * i + j)) = num (be (h.s i)) := numTo_congr fun j hj => by
      unfold midF
      rw [if_pos (by omega), flat_at h.s hj]
    exact e.trans (num_be _)
  · have hi' : i < (loadN (midF h)).toNat % 128 := hi
    rw [hN] at hi'
    show midF h (72 + i) = h.w i
    unfold midF
    rw [if_neg (by omega), if_neg (by omega), if_pos (by omega), show 72 + i - 72 = i by omega]
theorem may_mid (h : HS) (hn : h.n ≤ 1152921504606846976) : mayLoad 200 (midF h) := by
  have hN := load_mid_n h (by omega)
  refine ⟨rfl, by rw [hN]; exact hn, fun i h1 h2 => ?_⟩
  rw [hN] at h1
  unfold midF
  rw [if_neg (by omega), if_neg (by omega), if_neg (by omega)]
theorem many1 (fs : Nat → Nat → BitVec 8) (ms : Nat → Nat) : HS.zero.many fs ms 1 = HS.zero.puts (fs 0) (ms 0) := rfl
theorem many2 (fs : Nat → Nat → BitVec 8) (ms : Nat → Nat) : HS.zero.many fs ms 2 = (HS.zero.puts (fs 0) (ms 0)).puts (fs 1) (ms 1) := rfl
theorem many3 (fs : Nat → Nat → BitVec 8) (ms : Nat → Nat) : HS.zero.many fs ms 3 = HS.zero.puts (cat (cat (fs 0) (ms 0) (fs 1)) (ms 0 + ms 1) (fs 2)) (ms 0 + ms 1 + ms 2) := by
  show (((HS.zero.puts (fs 0) (ms 0)).puts (fs 1) (ms 1)).puts (fs 2) (ms 2)) = _
  rw [HS.puts_cat HS.zero (fs 0) (fs 1), HS.puts_cat HS.zero _ (fs 2)]
/-- A choice of three. -/
def sel {α : Type} (x y z : α) : Nat → α
  | 0 => x
  | 1 => y
  | _ => z
theorem alive_at : flatB HS.zero.sum.s 0 = 207#8 ∧ flatB HS.zero.sum.s 1 = 131#8 ∧ flatB HS.zero.sum.s 2 = 225#8 ∧ flatB HS.zero.sum.s 3 = 53#8 := by
  have h : HS.zero.sum.s = ovr iv (closed tx0 0 0) 1 := of_sum tx0 0
  have h0 := tx0_s0 0 (by decide)
  rw [h]
  unfold flatB
  rw [h0]
  decide +kernel
end Go.Sym
