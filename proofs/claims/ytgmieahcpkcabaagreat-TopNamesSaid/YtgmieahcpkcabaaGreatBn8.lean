import Derived.Test.YtgmieahcpkcabaaGreatBn7
import Derived.Test.YtgmieahcpkcabaaGreatBn4
namespace Go.Sym
open Go
def sumD (w : Nat) (f : Nat → Nat) : Nat → Nat
  | 0 => 0
  | k + 1 => sumD w f k + f k * 2 ^ (w * k)
theorem sumD_congr {w : Nat} {f g : Nat → Nat} : ∀ {k : Nat}, (∀ i, i < k → f i = g i) → sumD w f k = sumD w g k
  | 0, _ => rfl
  | k + 1, h => by simp only [sumD]; rw [sumD_congr (k := k) (fun i hi => h i (by omega)), h k (by omega)]
theorem sumD_lt {w : Nat} {f : Nat → Nat} : ∀ {k : Nat}, (∀ i, i < k → f i < 2 ^ w) → sumD w f k < 2 ^ (w * k)
  | 0, _ => by simp [sumD]
  | k + 1, h => by
    have ih := sumD_lt (w := w) (f := f) (k := k) (fun i hi => h i (by omega))
    have hk := h k (by omega)
    simp only [sumD]
    rw [Nat.mul_succ, Nat.pow_add]
    have h1 : (f k + 1) * 2 ^ (w * k) ≤ 2 ^ w * 2 ^ (w * k) := Nat.mul_le_mul_right _ hk
    rw [Nat.add_mul, Nat.one_mul, Nat.mul_comm (2 ^ w)] at h1
    omega
theorem sumD_get {w : Nat} {f : Nat → Nat} : ∀ {k i : Nat}, (∀ i, i < k → f i < 2 ^ w) → i < k → sumD w f k / 2 ^ (w * i) % 2 ^ w = f i
  | 0, i, _, hi => by omega
  | k + 1, i, h, hi => by
    simp only [sumD]
    have hp : 0 < 2 ^ (w * i) := Nat.two_pow_pos _
    by_cases hik : i = k
    · subst hik
      have hl := sumD_lt (w := w) (f := f) (k := i) (fun j hj => h j (by omega))
      rw [Nat.add_mul_div_right _ _ hp, Nat.div_eq_of_lt hl, Nat.zero_add, Nat.mod_eq_of_lt (h i hi)]
    · have ih := sumD_get (w := w) (f := f) (k := k) (i := i) (fun j hj => h j (by omega)) (by omega)
      have e : 2 ^ (w * k) = 2 ^ (w * i) * (2 ^ w * 2 ^ (w * (k - i - 1))) := by
        rw [← Nat.pow_add, ← Nat.pow_add]
        congr 1
        have : k = i + 1 + (k - i - 1) := by omega
        generalize k - i - 1 = q at this ⊢
        subst this
        rw [Nat.mul_add, Nat.mul_add]; omega
      rw [e, ← Nat.mul_assoc, Nat.mul_comm (f k), Nat.mul_assoc, Nat.add_mul_div_left _ _ hp, Nat.mul_comm (f k), Nat.mul_assoc, Nat.add_mul_mod_self_left]
      exact ih
theorem sumD_of {w n : Nat} : ∀ {k : Nat}, sumD w (fun i => n / 2 ^ (w * i) % 2 ^ w) k = n % 2 ^ (w * k)
  | 0 => by simp [sumD, Nat.mod_one]
  | k + 1 => by
    simp only [sumD]
    rw [sumD_of (k := k), Nat.mul_succ, Nat.pow_add, Nat.mod_mul, Nat.mul_comm (2 ^ (w * k)) (_ % _)]
def byt (n : Nat) : Nat → BitVec 8 := fun i => BitVec.ofNat 8 (n / 2 ^ (8 * i))
def limb (n : Nat) : Nat → BitVec 64 := fun i => BitVec.ofNat 64 (n / 2 ^ (64 * i))
def natB (f : Nat → BitVec 8) (k : Nat) : Nat := sumD 8 (fun i => (f i).toNat) k
def natU (f : Nat → BitVec 64) (k : Nat) : Nat := sumD 64 (fun i => (f i).toNat) k
theorem natB_lt (f : Nat → BitVec 8) (k : Nat) : natB f k < 2 ^ (8 * k) := sumD_lt fun i _ => (f i).isLt
theorem natU_succ (f : Nat → BitVec 64) (k : Nat) : natU f (k + 1) = natU f k + (f k).toNat * 2 ^ (64 * k) := rfl
theorem natB_congr {f g : Nat → BitVec 8} {k : Nat} (h : ∀ i, i < k → f i = g i) : natB f k = natB g k := sumD_congr fun i hi => by rw [h i hi]
theorem byt_toNat (n i : Nat) : (byt n i).toNat = n / 2 ^ (8 * i) % 2 ^ 8 := by unfold byt; rw [BitVec.toNat_ofNat]
theorem limb_toNat (n i : Nat) : (limb n i).toNat = n / 2 ^ (64 * i) % 2 ^ 64 := by unfold limb; rw [BitVec.toNat_ofNat]
theorem natB_byt (n k : Nat) : natB (byt n) k = n % 2 ^ (8 * k) := by
  rw [← sumD_of (w := 8) (n := n)]; exact sumD_congr fun i _ => byt_toNat n i
theorem natU_limb (n k : Nat) : natU (limb n) k = n % 2 ^ (64 * k) := by
  rw [← sumD_of (w := 64) (n := n)]; exact sumD_congr fun i _ => limb_toNat n i
theorem byt_natB (f : Nat → BitVec 8) (k i : Nat) (h : i < k) : byt (natB f k) i = f i := by
  apply BitVec.eq_of_toNat_eq
  rw [byt_toNat]
  exact sumD_get (fun i _ => (f i).isLt) h
theorem limb_natU (f : Nat → BitVec 64) (k i : Nat) (h : i < k) : limb (natU f k) i = f i := by
  apply BitVec.eq_of_toNat_eq
  rw [limb_toNat]
  exact sumD_get (fun i _ => (f i).isLt) h
theorem limb_mod (n k i : Nat) (h : i < k) : limb (n % 2 ^ (64 * k)) i = limb n i := by rw [← natU_limb, limb_natU _ _ _ h]
theorem cU_limb (f : Nat → BitVec 64) (k : Nat) : cU k f = cU k (limb (natU f k)) := cU_congr fun i hi => (limb_natU f k i hi).symm
theorem byt_inj {m n k : Nat} (hm : m < 2 ^ (8 * k)) (hn : n < 2 ^ (8 * k)) (h : ∀ i, i < k → byt m i = byt n i) : m = n := by
  have := natB_congr h
  rwa [natB_byt, natB_byt, Nat.mod_eq_of_lt hm, Nat.mod_eq_of_lt hn] at this
theorem limb_or (n c k : Nat) (hn : n < 2 ^ (8 * k)) (hc : c < 256) (b : BitVec 64) (hb : b.toNat = c) :
    upd (limb n) (k / 8) (limb n (k / 8) ||| b <<< (k % 8 * 8)) = limb (n + c * 2 ^ (8 * k)) := by
  have e : 2 ^ (8 * k) = 2 ^ (64 * (k / 8)) * 2 ^ (k % 8 * 8) := by rw [← Nat.pow_add]; congr 1; omega
  have hp : 0 < 2 ^ (64 * (k / 8)) := Nat.two_pow_pos _
  funext j
  unfold upd
  apply BitVec.eq_of_toNat_eq
  by_cases hj : j = k / 8
  · subst hj
    rw [if_pos rfl, BitVec.toNat_or, limb_toNat, limb_toNat, BitVec.toNat_shiftLeft, hb, e, ← Nat.mul_assoc, Nat.mul_comm c, Nat.mul_assoc, Nat.add_mul_div_left _ _ hp]
    have hq : n / 2 ^ (64 * (k / 8)) < 2 ^ (k % 8 * 8) := by
      rw [Nat.div_lt_iff_lt_mul hp, Nat.mul_comm, ← e]; exact hn
    have h8 : k % 8 * 8 ≤ 56 := by omega
    have h56 : 2 ^ (k % 8 * 8) ≤ 2 ^ 56 := Nat.pow_le_pow_right (by decide) h8
    have hprod : c * 2 ^ (k % 8 * 8) < 2 ^ 64 := by
      calc c * 2 ^ (k % 8 * 8) ≤ 255 * 2 ^ 56 := Nat.mul_le_mul (by omega) h56
        _ < 2 ^ 64 := by decide
    rw [Nat.mod_eq_of_lt (a := n / 2 ^ (64 * (k / 8))) (by omega), Nat.shiftLeft_eq, Nat.mod_eq_of_lt hprod]
    have h1 : n / 2 ^ (64 * (k / 8)) ||| c * 2 ^ (k % 8 * 8) = n / 2 ^ (64 * (k / 8)) + c * 2 ^ (k % 8 * 8) := by
      rw [Nat.or_comm, ← Nat.shiftLeft_eq, ← Nat.shiftLeft_add_eq_or_of_lt hq, Nat.add_comm]
    rw [h1]
    have : n / 2 ^ (64 * (k / 8)) + c * 2 ^ (k % 8 * 8) < 2 ^ 64 := by
      have h2 : (c + 1) * 2 ^ (k % 8 * 8) ≤ 256 * 2 ^ 56 := Nat.mul_le_mul (by omega) h56
      rw [Nat.add_mul, Nat.one_mul] at h2
      have : (256 * 2 ^ 56 : Nat) = 2 ^ 64 := by decide
      omega
    exact (Nat.mod_eq_of_lt this).symm
  · rw [if_neg hj, limb_toNat, limb_toNat]
    by_cases hlt : j < k / 8
    · have e2 : 2 ^ (8 * k) = 2 ^ (64 * j) * (2 ^ 64 * 2 ^ (8 * k - 64 * j - 64)) := by
        rw [← Nat.pow_add, ← Nat.pow_add]; congr 1; omega
      rw [e2, ← Nat.mul_assoc, Nat.mul_comm c, Nat.mul_assoc, Nat.add_mul_div_left _ _ (Nat.two_pow_pos _), Nat.mul_left_comm, Nat.add_mul_mod_self_left]
    · have hge : 8 * k + 8 ≤ 64 * j := by omega
      have h3 : n + c * 2 ^ (8 * k) < 2 ^ (64 * j) := by
        have h4 : 2 ^ (8 * k + 8) ≤ 2 ^ (64 * j) := Nat.pow_le_pow_right (by decide) hge
        rw [Nat.pow_add] at h4
        have h5 : (c + 1) * 2 ^ (8 * k) ≤ 256 * 2 ^ (8 * k) := Nat.mul_le_mul_right _ (by omega)
        rw [Nat.add_mul, Nat.one_mul] at h5
        have : (2 : Nat) ^ 8 = 256 := by decide
        rw [this, Nat.mul_comm] at h4
        omega
      rw [Nat.div_eq_of_lt h3, Nat.div_eq_of_lt (by omega)]
theorem limb_byt (n i : Nat) : (limb n (i / 8) >>> (i % 8 * 8)).setWidth 8 = byt n i := by
  apply BitVec.eq_of_toNat_eq
  rw [BitVec.toNat_setWidth, BitVec.toNat_ushiftRight, limb_toNat, byt_toNat, Nat.shiftRight_eq_div_pow]
  have e : 2 ^ (8 * i) = 2 ^ (64 * (i / 8)) * 2 ^ (i % 8 * 8) := by rw [← Nat.pow_add]; congr 1; omega
  rw [e, ← Nat.div_div_eq_div_mul]
  generalize n / 2 ^ (64 * (i / 8)) = m
  have e2 : (2 : Nat) ^ 64 = 2 ^ (i % 8 * 8) * (2 ^ 8 * 2 ^ (56 - i % 8 * 8)) := by rw [← Nat.pow_add, ← Nat.pow_add]; congr 1; omega
  rw [e2, Nat.mod_mul_right_div_self, Nat.mod_mul_right_mod]
theorem limb_bit (n i : Nat) : (limb n (i / 64) >>> (i % 64) &&& 1#64).toNat = n / 2 ^ i % 2 := by
  rw [BitVec.toNat_and, BitVec.toNat_ushiftRight, limb_toNat, Nat.shiftRight_eq_div_pow]
  have e : 2 ^ i = 2 ^ (64 * (i / 64)) * 2 ^ (i % 64) := by rw [← Nat.pow_add]; congr 1; omega
  rw [e, ← Nat.div_div_eq_div_mul]
  generalize n / 2 ^ (64 * (i / 64)) = m
  have e2 : (2 : Nat) ^ 64 = 2 ^ (i % 64) * (2 * 2 ^ (63 - i % 64)) := by rw [← Nat.pow_succ', ← Nat.pow_add]; congr 1; omega
  rw [e2, Nat.mod_mul_right_div_self]
  have h1 : ∀ q : Nat, q &&& (1#64).toNat = q % 2 := fun q => Nat.and_two_pow_sub_one_eq_mod q 1
  rw [h1, Nat.mod_mul_right_mod]
def carryOf (a b k : Nat) : Nat := (a % 2 ^ (64 * k) + b % 2 ^ (64 * k)) / 2 ^ (64 * k)
def borrowOf (a b k : Nat) : Nat := if a % 2 ^ (64 * k) < b % 2 ^ (64 * k) then 1 else 0
theorem pow_succ64 (k : Nat) : 2 ^ (64 * (k + 1)) = 2 ^ (64 * k) * 2 ^ 64 := by rw [Nat.mul_succ, Nat.pow_add]
theorem mod_lt_pow (a k : Nat) : a % 2 ^ (64 * k) < 2 ^ (64 * k) := Nat.mod_lt _ (Nat.two_pow_pos _)
theorem carryOf_le (a b k : Nat) : carryOf a b k ≤ 1 := by
  have h1 := mod_lt_pow a k
  have h2 := mod_lt_pow b k
  have : (a % 2 ^ (64 * k) + b % 2 ^ (64 * k)) / 2 ^ (64 * k) < 2 := by rw [Nat.div_lt_iff_lt_mul (Nat.two_pow_pos _)]; omega
  unfold carryOf; omega
theorem carryOf_zero (a b : Nat) : carryOf a b 0 = 0 := by simp [carryOf, Nat.mod_one]
theorem borrowOf_zero (a b : Nat) : borrowOf a b 0 = 0 := by simp [borrowOf, Nat.mod_one]
theorem div_add_split (a b M : Nat) (hM : 0 < M) : (a + b) / M = a / M + b / M + (a % M + b % M) / M := by
  have h1 := Nat.div_add_mod a M
  have h2 := Nat.div_add_mod b M
  have h3 : a + b = M * (a / M + b / M) + (a % M + b % M) := by rw [Nat.mul_add]; omega
  rw [h3, Nat.mul_add_div hM]
theorem sum_limb (a b k : Nat) (c : BitVec 64) (hc : c.toNat = carryOf a b k) :
    limb a k + limb b k + c = limb (a + b) k ∧ (cout (limb a k) (limb b k) c).toNat = carryOf a b (k + 1) := by
  have hM : 0 < 2 ^ (64 * k) := Nat.two_pow_pos _
  constructor
  · apply BitVec.eq_of_toNat_eq
    rw [BitVec.toNat_add, BitVec.toNat_add, limb_toNat, limb_toNat, limb_toNat, hc, div_add_split a b _ hM]
    unfold carryOf
    omega
  · unfold cout
    have hle := carryOf_le a b k
    have e : carryOf a b (k + 1) = (a / 2 ^ (64 * k) % 2 ^ 64 + b / 2 ^ (64 * k) % 2 ^ 64 + carryOf a b k) / 2 ^ 64 := by
      unfold carryOf
      rw [pow_succ64, Nat.mod_mul, Nat.mod_mul, ← Nat.div_div_eq_div_mul]
      congr 1
      have h3 : a % 2 ^ (64 * k) + 2 ^ (64 * k) * (a / 2 ^ (64 * k) % 2 ^ 64) + (b % 2 ^ (64 * k) + 2 ^ (64 * k) * (b / 2 ^ (64 * k) % 2 ^ 64)) =
          2 ^ (64 * k) * (a / 2 ^ (64 * k) % 2 ^ 64 + b / 2 ^ (64 * k) % 2 ^ 64) + (a % 2 ^ (64 * k) + b % 2 ^ (64 * k)) := by rw [Nat.mul_add]; omega
      rw [h3, Nat.mul_add_div hM]
    rw [BitVec.toNat_ofNat, limb_toNat, limb_toNat, hc, e]
    omega
theorem diff_limb (a b n k : Nat) (hk : k < n) (hb : b < 2 ^ (64 * n)) (c : BitVec 64) (hc : c.toNat = borrowOf a b k) :
    limb a k - limb b k - c = limb (a + (2 ^ (64 * n) - b)) k ∧ (bout (limb a k) (limb b k) c).toNat = borrowOf a b (k + 1) := by
  have hM : 0 < 2 ^ (64 * k) := Nat.two_pow_pos _
  have e0 : 2 ^ (64 * n) = 2 ^ (64 * k) * (2 ^ 64 * 2 ^ (64 * (n - k - 1))) := by
    rw [← Nat.pow_add, ← Nat.pow_add]; congr 1; omega
  constructor
  · apply BitVec.eq_of_toNat_eq
    rw [BitVec.toNat_sub, BitVec.toNat_sub, limb_toNat, limb_toNat, limb_toNat, hc]
    have h1 := Nat.div_add_mod a (2 ^ (64 * k))
    have h2 := Nat.div_add_mod b (2 ^ (64 * k))
    have ha := mod_lt_pow a k
    have hb' := mod_lt_pow b k
    have hqb : b / 2 ^ (64 * k) < 2 ^ 64 * 2 ^ (64 * (n - k - 1)) := by rw [Nat.div_lt_iff_lt_mul hM, Nat.mul_comm, ← e0]; exact hb
    have key : (a + (2 ^ (64 * n) - b)) / 2 ^ (64 * k) = a / 2 ^ (64 * k) + (2 ^ 64 * 2 ^ (64 * (n - k - 1)) - b / 2 ^ (64 * k)) - borrowOf a b k := by
      unfold borrowOf
      rw [e0]
      generalize 2 ^ 64 * 2 ^ (64 * (n - k - 1)) = T at hqb ⊢
      generalize a / 2 ^ (64 * k) = qa at h1 ⊢
      generalize a % 2 ^ (64 * k) = ra at h1 ha ⊢
      generalize b / 2 ^ (64 * k) = qb at h2 hqb ⊢
      generalize b % 2 ^ (64 * k) = rb at h2 hb' ⊢
      generalize hMM : 2 ^ (64 * k) = M at *
      obtain ⟨d, rfl⟩ : ∃ d, T = qb + 1 + d := ⟨T - qb - 1, by omega⟩
      have h5 : M * (qb + 1 + d) - b = M * d + (M - rb) := by
        rw [← h2, Nat.mul_add, Nat.mul_add]; omega
      have h6 : a + (M * (qb + 1 + d) - b) = M * (qa + d) + (ra + (M - rb)) := by rw [h5, ← h1, Nat.mul_add]; omega
      rw [h6, Nat.mul_add_div hM]
      split
      · rename_i hlt
        rw [Nat.div_eq_of_lt (by omega)]; omega
      · rename_i hlt
        have : (ra + (M - rb)) / M = 1 := by
          rw [Nat.div_eq_iff hM]; omega
        rw [this]; omega
    rw [key]
    have hle : borrowOf a b k ≤ 1 := by unfold borrowOf; split <;> omega
    have hT2 : (2 ^ 64 * 2 ^ (64 * (n - k - 1))) % 2 ^ 64 = 0 := Nat.mul_mod_right _ _
    clear key e0 h1 h2 ha hb' hb hc
    generalize borrowOf a b k = c' at hle ⊢
    generalize 2 ^ 64 * 2 ^ (64 * (n - k - 1)) = T at hqb hT2 ⊢
    generalize a / 2 ^ (64 * k) = qa
    generalize b / 2 ^ (64 * k) = qb at hqb ⊢
    omega
  · unfold bout
    have e : borrowOf a b (k + 1) = if a / 2 ^ (64 * k) % 2 ^ 64 < b / 2 ^ (64 * k) % 2 ^ 64 + borrowOf a b k then 1 else 0 := by
      unfold borrowOf
      rw [pow_succ64, Nat.mod_mul, Nat.mod_mul]
      have ha := mod_lt_pow a k
      have hb' := mod_lt_pow b k
      generalize a / 2 ^ (64 * k) % 2 ^ 64 = qa
      generalize a % 2 ^ (64 * k) = ra at ha ⊢
      generalize b / 2 ^ (64 * k) % 2 ^ 64 = qb
      generalize b % 2 ^ (64 * k) = rb at hb' ⊢
      generalize 2 ^ (64 * k) = M at *
      have h7 : qa < qb → M * qa + M ≤ M * qb := fun h => by
        have := Nat.mul_le_mul_left M (show qa + 1 ≤ qb from h)
        rwa [Nat.mul_add, Nat.mul_one] at this
      have h8 : qb < qa → M * qb + M ≤ M * qa := fun h => by
        have := Nat.mul_le_mul_left M (show qb + 1 ≤ qa from h)
        rwa [Nat.mul_add, Nat.mul_one] at this
      have h9 : qa = qb → M * qa = M * qb := fun h => by rw [h]
      rcases Nat.lt_trichotomy qa qb with h | h | h
      · have := h7 h
        rw [if_pos (by omega), if_pos (by omega)]
      · have := h9 h
        by_cases h10 : ra < rb
        · rw [if_pos (by omega), if_pos (by rw [if_pos h10]; omega)]
        · rw [if_neg (by omega), if_neg (by rw [if_neg h10]; omega)]
      · have := h8 h
        rw [if_neg (by omega), if_neg (by split <;> omega)]
    rw [e, limb_toNat, limb_toNat, hc]
    split <;> rfl
end Go.Sym
namespace Go.Ev
open Go Go.Sym Go.RowKit
set_option linter.unusedSectionVars false
variable [Vl]
variable {P : Program} {bs : Nm} {w w' : World} {h : Hp}
abbrev Orc := List V → Hp → Option (V × Hp)
def OrcF (P : Program) (f : FuncId) (g : Orc) : Prop := ∀ as h v h', g as h = some (v, h') → ∀ bs vs w, VsR bs as vs → HR w bs h → CallR P f vs.toArray w (After w bs h v h')
def lookO (f : FuncId) : List (FuncId × Orc) → Option Orc
  | [] => none
  | (g, o) :: r => bif Nat.beq f g then some o else lookO f r
theorem lookO_ok {f : FuncId} {g : Orc} : ∀ {l : List (FuncId × Orc)}, AllL (fun p => OrcF P p.1 p.2) l → lookO f l = some g → OrcF P f g
  | [], _, h => by simp [lookO] at h
  | (f', o) :: r, ⟨h1, h2⟩, h => by
    simp only [lookO] at h
    cases hb : Nat.beq f f' with
    | true =>
      rw [hb] at h
      simp only [cond_true, Option.some.injEq] at h
      rw [beq_eq hb, ← h]; exact h1
    | false =>
      rw [hb] at h
      exact lookO_ok h2 h
theorem orc_ok {l : List (FuncId × Orc)} (h : AllL (fun p => OrcF P p.1 p.2) l) : OrcOk P fun f => lookO f l := by
  intro f g hg f' as h1 v h' he bs vs w ha hR
  simp only at he
  split at he
  · rename_i e
    subst e
    exact lookO_ok h hg as h1 v h' he bs vs w ha hR
  · cases he
def PureF (P : Program) (f : FuncId) (g : List V → Option V) : Prop := ∀ as v, g as = some v → ∀ bs vs w, VsR bs as vs → ∃ u, Pure P f vs.toArray w u ∧ VR bs v u
def pureO (g : List V → Option V) : Orc := fun as h => match g as with
  | some v => some (v, h)
  | none => none
theorem pure_call {f : FuncId} {args : Array Value} {u : Value} {v : V} (hR : HR w bs h) (hp : Pure P f args w u) (hv : VR bs v u) : CallR P f args w (After w bs h v h) := by
  refine .inr ⟨run_callFunc hp.ok _, hp.calls.mono ?_⟩
  rintro e w' ⟨rfl, hM⟩
  obtain ⟨h1, h2⟩ := hR.same (Ext.of_mem hM)
  exact ⟨u, rfl, bs, h1, h2, hv⟩
theorem pureO_ok {f : FuncId} {g : List V → Option V} (hg : PureF P f g) : OrcF P f (pureO g) := by
  intro as h v h' he bs vs w ha hR
  unfold pureO at he
  split at he
  · rename_i v' hv
    cases he
    obtain ⟨u, h1, h2⟩ := hg as v hv bs vs w ha
    exact pure_call hR h1 h2
  · cases he
def byteN : C → Option Nat
  | .int .u8 (.ofNat n) => bif Nat.blt n 256 then some n else none
  | _ => none
def bytesL : List C → Option (List Nat)
  | [] => some []
  | c :: l => match byteN c, bytesL l with
    | some b, some r => some (b :: r)
    | _, _ => none
def natL : List Nat → Nat
  | [] => 0
  | b :: l => b + 256 * natL l
def fnL (l : List Nat) : Nat → BitVec 8 := fun i => BitVec.ofNat 8 (l.getD i 0)
def byC (l : List Nat) : List C := l.map fun n => .int .u8 (.ofNat n)
theorem bytesL_lt : ∀ {l : List C} {bl : List Nat}, bytesL l = some bl → ∀ b ∈ bl, b < 256
  | [], bl, h, b, hb => by simp [bytesL] at h; subst h; cases hb
  | c :: l, bl, h, b, hb => by
    simp only [bytesL] at h
    split at h
    · rename_i x r hx hr
      cases h
      rcases List.mem_cons.1 hb with rfl | hb
      · unfold byteN at hx
        split at hx
        · obtain ⟨h1, h2⟩ := bcond hx
          subst h2; exact blt_lt h1
        · cases hx
      · exact bytesL_lt hr b hb
    · cases h
theorem B_nat {n : Nat} (h : n < 256) : Value.int .u8 (Int.ofNat n) = B (BitVec.ofNat 8 n) := by
  show _ = Value.int .u8 _
  rw [BitVec.toNat_ofNat, Nat.mod_eq_of_lt (by exact h)]; rfl
theorem bytesL_vs : ∀ {l : List C} {bl : List Nat} {vs : List Value}, bytesL l = some bl → CsR bs l vs → vs = bl.map fun n => B (BitVec.ofNat 8 n)
  | [], bl, vs, h, hv => by
    simp [bytesL] at h; subst h
    cases vs with
    | nil => rfl
    | cons v vs => exact hv.elim
  | c :: l, bl, vs, h, hv => by
    simp only [bytesL] at h
    split at h
    case h_2 => cases h
    rename_i x r hx hr
    cases h
    cases vs with
    | nil => exact hv.elim
    | cons v vs =>
      obtain ⟨h1, h2⟩ := hv
      rw [List.map_cons, ← bytesL_vs hr h2]
      congr 1
      unfold byteN at hx
      split at hx
      · obtain ⟨h3, h4⟩ := bcond hx
        subst h4
        rw [← B_nat (blt_lt h3)]; exact h1
      · cases hx
theorem map_cB (bl : List Nat) : (bl.map fun n => B (BitVec.ofNat 8 n)) = cB bl.length (fnL bl) := by
  apply List.ext_getElem?
  intro i
  rw [List.getElem?_map]
  by_cases h : i < bl.length
  · rw [show (cB bl.length (fnL bl))[i]? = some (B (fnL bl i)) from cells_get h, List.getElem?_eq_getElem h, Option.map_some]
    unfold fnL
    rw [List.getD_eq_getElem?_getD, List.getElem?_eq_getElem h]; rfl
  · rw [List.getElem?_eq_none (by omega), List.getElem?_eq_none (by rw [cells_len]; omega)]; rfl
theorem bytes_agg {l : List C} {bl : List Nat} {u : Value} (h : bytesL l = some bl) (hv : VR bs (.agg l) u) : u = .agg (cB bl.length (fnL bl)).toArray := by
  obtain ⟨vs, h1, rfl⟩ := hv
  rw [bytesL_vs h h1, map_cB]
theorem byC_ok : ∀ {l : List Nat}, (∀ b ∈ l, b < 256) → CsR bs (byC l) (l.map fun n => B (BitVec.ofNat 8 n))
  | [], _ => trivial
  | b :: _, h => ⟨(B_nat (h b List.mem_cons_self)).symm, byC_ok fun x hx => h x (List.mem_cons_of_mem _ hx)⟩
def outL (N : Nat) : Nat → List Nat
  | 0 => []
  | n + 1 => N % 256 :: outL (N / 256) n
theorem outL_len : ∀ (n N : Nat), (outL N n).length = n
  | 0, _ => rfl
  | n + 1, N => by rw [outL, List.length_cons, outL_len n]
theorem outL_get : ∀ (n N i : Nat), i < n → (outL N n)[i]? = some (N / 256 ^ i % 256)
  | n + 1, N, 0, _ => by simp [outL]
  | n + 1, N, i + 1, h => by
    rw [outL, List.getElem?_cons_succ, outL_get n _ i (by omega), Nat.div_div_eq_div_mul, Nat.pow_succ, Nat.mul_comm 256]
theorem outL_lt (n N : Nat) : ∀ b ∈ outL N n, b < 256 := fun b hb => by
  obtain ⟨i, hi⟩ := List.getElem?_of_mem hb
  have hl := (List.getElem?_eq_some_iff.1 hi).1
  rw [outL_len] at hl
  rw [outL_get n N i hl] at hi
  cases hi
  exact Nat.mod_lt _ (by decide)
theorem out_byt (n N : Nat) : ((outL N n).map fun n => B (BitVec.ofNat 8 n)) = cB n (byt N) := by
  apply List.ext_getElem?
  intro i
  rw [List.getElem?_map]
  by_cases h : i < n
  · rw [show (cB n (byt N))[i]? = some (B (byt N i)) from cells_get h, outL_get n N i h]
    simp only [Option.map_some, Option.some.injEq]
    congr 1
    unfold byt
    apply BitVec.eq_of_toNat_eq
    rw [BitVec.toNat_ofNat, BitVec.toNat_ofNat, show (2 : Nat) ^ 8 = 256 from rfl, Nat.mod_mod, show (256 : Nat) = 2 ^ 8 from rfl, ← Nat.pow_mul]
  · rw [List.getElem?_eq_none (by rw [outL_len]; omega), List.getElem?_eq_none (by rw [cells_len]; omega)]; rfl
theorem out_vr (n N : Nat) : VR bs (.agg (byC (outL N n))) (.agg (cB n (byt N)).toArray) := ⟨_, byC_ok (outL_lt n N), by rw [out_byt]⟩
theorem natL_eq (l : List Nat) (k : Nat) (hb : ∀ b ∈ l, b < 256) (hk : k = l.length) : natB (fnL l) k = natL l := by
  have key : ∀ (l : List Nat) (k : Nat), k ≤ l.length → (∀ b ∈ l, b < 256) → natB (fnL l) k = natL (l.take k) := by
    intro l k
    induction k with
    | zero => intro _ _; rfl
    | succ k ih =>
      intro hk hb
      have h1 : natB (fnL l) (k + 1) = natB (fnL l) k + (fnL l k).toNat * 2 ^ (8 * k) := rfl
      have hx : l[k]'(by omega) < 256 := hb _ (List.getElem_mem _)
      have h2 : (fnL l k).toNat = l[k]'(by omega) := by
        unfold fnL
        rw [BitVec.toNat_ofNat, List.getD_eq_getElem?_getD, List.getElem?_eq_getElem (by omega)]
        exact Nat.mod_eq_of_lt hx
      have h3 : ∀ (a : List Nat) (x : Nat), natL (a ++ [x]) = natL a + x * 256 ^ a.length := by
        intro a x
        induction a with
        | nil => simp [natL]
        | cons y a iha => rw [List.cons_append, natL, iha, natL, List.length_cons, Nat.pow_succ, Nat.mul_add, Nat.add_assoc, Nat.mul_left_comm, Nat.mul_comm 256 (256 ^ _)]
      rw [h1, h2, ih (by omega) hb, List.take_succ_eq_append_getElem (by omega), h3, List.length_take, Nat.min_eq_left (by omega), show (256 : Nat) = 2 ^ 8 from rfl, ← Nat.pow_mul]
  rw [key l k (by omega) hb, hk, List.take_length]
def syC (o : Ob) : Nat → Nat → List C
  | _, 0 => []
  | k, n + 1 => .sy o k :: syC o (k + 1) n
def whole (n : Nat) : List C → Option Ob
  | .sy o k :: l => bif csEq (.sy o k :: l) (syC o 0 n) then some o else none
  | _ => none
theorem syC_vs {o : Ob} : ∀ {n k : Nat} {vs : List Value}, CsR bs (syC o k n) vs → vs = (List.range n).map fun i => Vl.v o (k + i)
  | 0, k, vs, h => by
    cases vs with
    | nil => rfl
    | cons v vs => exact h.elim
  | n + 1, k, vs, h => by
    cases vs with
    | nil => exact h.elim
    | cons v vs =>
      obtain ⟨h1, h2⟩ := h
      rw [List.range_succ_eq_map, List.map_cons, List.map_map, syC_vs h2]
      congr 1
      apply List.map_congr_left
      intro i _
      show Vl.v o (k + 1 + i) = Vl.v o (k + (i + 1))
      rw [show k + 1 + i = k + (i + 1) by omega]
theorem syC_ok {o : Ob} : ∀ (n k : Nat), CsR bs (syC o k n) ((List.range n).map fun i => Vl.v o (k + i))
  | 0, _ => trivial
  | n + 1, k => by
    rw [List.range_succ_eq_map, List.map_cons, List.map_map]
    refine ⟨rfl, ?_⟩
    have := syC_ok (o := o) n (k + 1)
    have he : (List.range n).map (fun i => Vl.v o (k + 1 + i)) = (List.range n).map ((fun i => Vl.v o (k + i)) ∘ Nat.succ) := by
      apply List.map_congr_left
      intro i _
      show Vl.v o (k + 1 + i) = Vl.v o (k + (i + 1))
      rw [show k + 1 + i = k + (i + 1) by omega]
    rw [← he]; exact this
theorem whole_ok {n : Nat} {l : List C} {o : Ob} (h : whole n l = some o) : l = syC o 0 n := by
  unfold whole at h
  split at h
  · obtain ⟨h1, h2⟩ := bcond h
    subst h2
    exact csEq_ok h1
  · cases h
end Go.Ev
namespace Go.Sym
open Go
def pP : Nat := 57896044618658097711785492504343953926634992332820282019728792003956564819949
theorem pP_eq : pP + 19 = 2 ^ 255 := by decide +kernel
theorem pP_pos : 0 < pP := by decide +kernel
def val (x : Nat → BitVec 64) : Nat := sumD 51 (fun i => (x i).toNat) 5
theorem val_def (x : Nat → BitVec 64) : val x = (x 0).toNat + (x 1).toNat * 2 ^ 51 + (x 2).toNat * 2 ^ 102 + (x 3).toNat * 2 ^ 153 + (x 4).toNat * 2 ^ 204 := by
  unfold val
  simp only [sumD]
  simp
def Ok (x : Nat → BitVec 64) : Prop := ∀ i, i < 5 → (x i).toNat ≤ 2251799813693440
theorem and_mask (x : BitVec 64) : (x &&& 2251799813685247#64).toNat = x.toNat % 2251799813685248 := by
  rw [BitVec.toNat_and]
  exact Nat.and_two_pow_sub_one_eq_mod _ 51
theorem shr51 (x : BitVec 64) : (x >>> 51).toNat = x.toNat / 2251799813685248 := by
  rw [BitVec.toNat_ushiftRight, Nat.shiftRight_eq_div_pow]
def feCarry (x : Nat → BitVec 64) : Nat → BitVec 64 := fun i => if i = 0 then (x 0 &&& 2251799813685247#64) + (x 4 >>> 51) * 19#64 else (x i &&& 2251799813685247#64) + x (i - 1) >>> 51
def carTo (x : Nat → BitVec 64) (k : Nat) : Nat → BitVec 64 := fun i => if i < k then (if i = 0 then x 0 &&& 2251799813685247#64 else (x i &&& 2251799813685247#64) + x (i - 1) >>> 51) else 0
theorem carTo_zero (x : Nat → BitVec 64) : carTo x 0 = fun _ => 0 := by funext i; exact if_neg (Nat.not_lt_zero i)
theorem carTo_first (x : Nat → BitVec 64) (k : Nat) (hk : ¬ 0 < k) : upd (carTo x k) k (x k &&& 2251799813685247#64) = carTo x (k + 1) := by
  have : k = 0 := by omega
  subst this
  funext i
  unfold upd carTo
  by_cases h : i = 0
  · subst h; rw [if_pos rfl, if_pos (by omega), if_pos rfl]
  · rw [if_neg h, if_neg (by omega), if_neg (by omega)]
theorem carTo_next (x : Nat → BitVec 64) (k : Nat) (hk : 0 < k) : upd (upd (carTo x k) k (x k &&& 2251799813685247#64)) k (upd (carTo x k) k (x k &&& 2251799813685247#64) k + x (k - 1) >>> 51) = carTo x (k + 1) := by
  funext i
  have e : upd (carTo x k) k (x k &&& 2251799813685247#64) k = x k &&& 2251799813685247#64 := by unfold upd; rw [if_pos rfl]
  rw [e]
  unfold upd carTo
  by_cases h : i = k
  · subst h; rw [if_pos rfl, if_pos (by omega), if_neg (by omega)]
  · rw [if_neg h, if_neg h]
    by_cases h2 : i < k
    · rw [if_pos h2, if_pos (show i < k + 1 by omega)]
    · rw [if_neg h2, if_neg (by omega)]
theorem carTo_end (x : Nat → BitVec 64) : cU 5 (upd (carTo x 5) 0 (carTo x 5 0 + (x 4 >>> 51) * 19#64)) = cU 5 (feCarry x) := cU_congr fun i hi => by
  unfold upd carTo feCarry
  by_cases h : i = 0
  · subst h; rw [if_pos rfl, if_pos rfl, if_pos (by omega), if_pos rfl]
  · rw [if_neg h, if_neg h, if_pos hi, if_neg h]
theorem feCarry_val (x : Nat → BitVec 64) (_h4 : (x 4).toNat / 2251799813685248 * 19 + 2251799813685248 < 18446744073709551616) (hx : ∀ i, i < 5 → (x i).toNat / 2251799813685248 + 2251799813685248 < 18446744073709551616) :
    (feCarry x 0).toNat = (x 0).toNat % 2251799813685248 + (x 4).toNat / 2251799813685248 * 19 ∧ ∀ i, 0 < i → i < 5 → (feCarry x i).toNat = (x i).toNat % 2251799813685248 + (x (i - 1)).toNat / 2251799813685248 := by
  constructor
  · unfold feCarry
    rw [if_pos rfl, BitVec.toNat_add, BitVec.toNat_mul, and_mask, shr51]
    have e : (19#64).toNat = 19 := rfl
    rw [e]
    have := Nat.mod_lt (x 0).toNat (show 0 < 2251799813685248 by decide)
    omega
  · intro i h0 hi
    unfold feCarry
    rw [if_neg (by omega), BitVec.toNat_add, and_mask, shr51]
    have := Nat.mod_lt (x i).toNat (show 0 < 2251799813685248 by decide)
    have := hx (i - 1) (by omega)
    omega
theorem car_nat (a b c d e q0 q1 q2 q3 q4 p : Nat) (hp : p + 19 = 2 ^ 255) :
    (a % 2251799813685248 + q4 * 19) + (b % 2251799813685248 + q0) * 2 ^ 51 + (c % 2251799813685248 + q1) * 2 ^ 102 + (d % 2251799813685248 + q2) * 2 ^ 153 + (e % 2251799813685248 + q3) * 2 ^ 204 + p * q4 =
    (2251799813685248 * q0 + a % 2251799813685248) + (2251799813685248 * q1 + b % 2251799813685248) * 2 ^ 51 + (2251799813685248 * q2 + c % 2251799813685248) * 2 ^ 102 + (2251799813685248 * q3 + d % 2251799813685248) * 2 ^ 153 + (2251799813685248 * q4 + e % 2251799813685248) * 2 ^ 204 := by
  have h1 : p * q4 = (2 ^ 255 - 19) * q4 := by rw [← hp, Nat.add_sub_cancel]
  have h2 : (2 ^ 255 - 19) * q4 + 19 * q4 = 2 ^ 255 * q4 := by rw [← Nat.add_mul]
  rw [h1]
  generalize (2 ^ 255 - 19) * q4 = t at *
  omega
theorem feCarry_sum (x : Nat → BitVec 64) (h4 : (x 4).toNat / 2251799813685248 * 19 + 2251799813685248 < 18446744073709551616) (hx : ∀ i, i < 5 → (x i).toNat / 2251799813685248 + 2251799813685248 < 18446744073709551616) :
    val (feCarry x) + pP * ((x 4).toNat / 2251799813685248) = val x := by
  obtain ⟨h0, h1⟩ := feCarry_val x h4 hx
  have k1 := h1 1 (by omega) (by omega)
  have k2 := h1 2 (by omega) (by omega)
  have k3 := h1 3 (by omega) (by omega)
  have k4 := h1 4 (by omega) (by omega)
  simp only [Nat.reduceSub] at k1 k2 k3 k4
  rw [val_def, val_def, h0, k1, k2, k3, k4, car_nat _ _ _ _ _ _ _ _ _ _ pP pP_eq]
  rw [Nat.div_add_mod, Nat.div_add_mod, Nat.div_add_mod, Nat.div_add_mod, Nat.div_add_mod]
theorem mod_of_add {a b m q : Nat} (h : a + m * q = b) : a % m = b % m := by rw [← h, Nat.add_mul_mod_self_left]
def feAdd (x y : Nat → BitVec 64) : Nat → BitVec 64 := feCarry fun i => x i + y i
def subP (i : Nat) : BitVec 64 := if i = 0 then 4503599627370458#64 else 4503599627370494#64
def feSub (x y : Nat → BitVec 64) : Nat → BitVec 64 := feCarry fun i => x i + subP i - y i
theorem carry_ok {x : Nat → BitVec 64} (hx : ∀ i, i < 5 → (x i).toNat < 967140656725819392) : Ok (feCarry x) ∧ val (feCarry x) % pP = val x % pP := by
  have hb : ∀ i, i < 5 → (x i).toNat / 2251799813685248 ≤ 429 := fun i hi => by have := hx i hi; omega
  have h4 : (x 4).toNat / 2251799813685248 * 19 + 2251799813685248 < 18446744073709551616 := by have := hb 4 (by omega); omega
  have h5 : ∀ i, i < 5 → (x i).toNat / 2251799813685248 + 2251799813685248 < 18446744073709551616 := fun i hi => by have := hb i hi; omega
  obtain ⟨h0, h1⟩ := feCarry_val x h4 h5
  refine ⟨fun i hi => ?_, mod_of_add (feCarry_sum x h4 h5)⟩
  by_cases hi0 : i = 0
  · subst hi0
    rw [h0]
    have := hb 4 (by omega)
    have := Nat.mod_lt (x 0).toNat (show 0 < 2251799813685248 by decide)
    omega
  · rw [h1 i (by omega) hi]
    have := hb (i - 1) (by omega)
    have := Nat.mod_lt (x i).toNat (show 0 < 2251799813685248 by decide)
    omega
theorem add_toNat {x y : Nat → BitVec 64} (hx : Ok x) (hy : Ok y) (i : Nat) (hi : i < 5) : (x i + y i).toNat = (x i).toNat + (y i).toNat := by
  have := hx i hi
  have := hy i hi
  rw [BitVec.toNat_add]; omega
theorem val_add {x y z : Nat → BitVec 64} (h : ∀ i, i < 5 → (z i).toNat = (x i).toNat + (y i).toNat) : val z = val x + val y := by
  rw [val_def, val_def, val_def, h 0 (by omega), h 1 (by omega), h 2 (by omega), h 3 (by omega), h 4 (by omega)]
  simp only [Nat.add_mul]
  omega
theorem feAdd_ok {x y : Nat → BitVec 64} (hx : Ok x) (hy : Ok y) : Ok (feAdd x y) ∧ val (feAdd x y) % pP = (val x + val y) % pP := by
  have h := carry_ok (x := fun i => x i + y i) (fun i hi => by
    rw [add_toNat hx hy i hi]
    have := hx i hi
    have := hy i hi
    omega)
  rw [val_add (x := x) (y := y) (z := fun i => x i + y i) (fun i hi => add_toNat hx hy i hi)] at h
  exact h
theorem sub_toNat {x y : Nat → BitVec 64} (hx : Ok x) (hy : Ok y) (i : Nat) (hi : i < 5) : (x i + subP i - y i).toNat + (y i).toNat = (x i).toNat + (subP i).toNat := by
  have := hx i hi
  have := hy i hi
  have hs : (subP i).toNat = if i = 0 then 4503599627370458 else 4503599627370494 := by unfold subP; split <;> rfl
  rw [BitVec.toNat_sub, BitVec.toNat_add, hs]
  split <;> omega
theorem val_subP : val subP = 2 * pP := by decide +kernel
theorem feSub_ok {x y : Nat → BitVec 64} (hx : Ok x) (hy : Ok y) : Ok (feSub x y) ∧ (val (feSub x y) + val y) % pP = val x % pP := by
  have h := carry_ok (x := fun i => x i + subP i - y i) (fun i hi => by
    have h1 := sub_toNat hx hy i hi
    have := hx i hi
    have hs : (subP i).toNat ≤ 4503599627370494 := by unfold subP; split <;> decide
    omega)
  have h2 : val (fun i => x i + subP i - y i) + val y = val x + val subP := by
    have e1 := val_add (x := fun i => x i + subP i - y i) (y := y) (z := fun i => x i + subP i) (fun i hi => by
      rw [sub_toNat hx hy i hi, BitVec.toNat_add]
      have := hx i hi
      have hs : (subP i).toNat ≤ 4503599627370494 := by unfold subP; split <;> decide
      omega)
    have e2 := val_add (x := x) (y := subP) (z := fun i => x i + subP i) (fun i hi => by
      rw [BitVec.toNat_add]
      have := hx i hi
      have hs : (subP i).toNat ≤ 4503599627370494 := by unfold subP; split <;> decide
      omega)
    rw [← e1, e2]
  refine ⟨h.1, ?_⟩
  show (val (feCarry _) + val y) % pP = _
  rw [← Nat.mod_add_mod, h.2, Nat.mod_add_mod, h2, val_subP, Nat.add_mul_mod_self_right]
def lng (g : Nat → BitVec 64) (k : Nat) : Nat := (g (2 * k)).toNat * 18446744073709551616 + (g (2 * k + 1)).toNat
def addHi (g : Nat → BitVec 64) (o : Nat) (a b : BitVec 64) : BitVec 64 := g o + mulHi a b + cout (g (o + 1)) (a * b) 0#64
def addLo (g : Nat → BitVec 64) (o : Nat) (a b : BitVec 64) : BitVec 64 := g (o + 1) + a * b + 0#64
def addG (g : Nat → BitVec 64) (o : Nat) (a b : BitVec 64) : Nat → BitVec 64 := upd (upd g (o + 1) (addLo g o a b)) o (addHi g o a b)
theorem long_fin (b h hi k s l lo m : Nat) (hm : hi * b + lo = m) (d : b * k + s = l + lo) : (h + hi + k) * b + s = h * b + l + m := by
  rw [Nat.add_mul, Nat.add_mul, Nat.mul_comm k]
  omega
theorem long_nat (hi lo h l m : Nat) (hm : hi * 18446744073709551616 + lo = m) (hl : l < 18446744073709551616) (hlo : lo < 18446744073709551616) (hs : h * 18446744073709551616 + l + m < 340282366920938463463374607431768211456) :
    ((h + hi) % 18446744073709551616 + (l + lo + 0) / 18446744073709551616 % 18446744073709551616) % 18446744073709551616 * 18446744073709551616 + ((l + lo) % 18446744073709551616 + 0) % 18446744073709551616 = h * 18446744073709551616 + l + m := by
  simp only [Nat.add_zero, Nat.mod_mod]
  have d := Nat.div_add_mod (l + lo) 18446744073709551616
  have b1 : (l + lo) / 18446744073709551616 ≤ 1 := by omega
  generalize (l + lo) / 18446744073709551616 = k at d b1 ⊢
  generalize (l + lo) % 18446744073709551616 = s at d ⊢
  rw [Nat.mod_eq_of_lt (a := k) (by omega), Nat.mod_eq_of_lt (a := h + hi) (by omega), Nat.mod_eq_of_lt (a := h + hi + k) (by omega)]
  exact long_fin _ _ _ _ _ _ _ _ hm d
theorem addG_lng (g : Nat → BitVec 64) (k : Nat) (a b : BitVec 64) (hs : lng g k + a.toNat * b.toNat < 340282366920938463463374607431768211456) : lng (addG g (2 * k) a b) k = lng g k + a.toNat * b.toNat := by
  have key := long_nat _ _ (g (2 * k)).toNat (g (2 * k + 1)).toNat _ (mul_split a b) (g (2 * k + 1)).isLt (a * b).isLt hs
  have add0 : ∀ u v : BitVec 64, (u + v).toNat = (u.toNat + v.toNat) % 18446744073709551616 := fun u v => BitVec.toNat_add u v
  have of0 : ∀ q : Nat, (BitVec.ofNat 64 q).toNat = q % 18446744073709551616 := fun q => BitVec.toNat_ofNat q 64
  have e1 : addG g (2 * k) a b (2 * k) = addHi g (2 * k) a b := by unfold addG upd; rw [if_pos rfl]
  have e2 : addG g (2 * k) a b (2 * k + 1) = addLo g (2 * k) a b := by unfold addG upd; rw [if_neg (by omega), if_pos rfl]
  unfold lng
  rw [e1, e2]
  unfold addHi addLo cout
  simp only [add0, of0]
  exact key
theorem addG_other (g : Nat → BitVec 64) (k j : Nat) (a b : BitVec 64) (h : j ≠ k) : lng (addG g (2 * k) a b) j = lng g j := by
  unfold lng
  have e : ∀ i, i ≠ 2 * k → i ≠ 2 * k + 1 → addG g (2 * k) a b i = g i := fun i h1 h2 => by unfold addG upd; rw [if_neg h1, if_neg h2]
  rw [e _ (by omega) (by omega), e _ (by omega) (by omega)]
def lsum (g : Nat → BitVec 64) : Nat := lng g 0 + lng g 1 * 2 ^ 51 + lng g 2 * 2 ^ 102 + lng g 3 * 2 ^ 153 + lng g 4 * 2 ^ 204
theorem lsum_add (g : Nat → BitVec 64) (k : Nat) (hk : k < 5) (a b : BitVec 64) (hs : lng g k + a.toNat * b.toNat < 340282366920938463463374607431768211456) : lsum (addG g (2 * k) a b) = lsum g + a.toNat * b.toNat * 2 ^ (51 * k) := by
  have h := addG_lng g k a b hs
  have ho := fun j hj => addG_other g k j a b hj
  unfold lsum
  generalize a.toNat * b.toNat = m at *
  have : k = 0 ∨ k = 1 ∨ k = 2 ∨ k = 3 ∨ k = 4 := by omega
  rcases this with rfl | rfl | rfl | rfl | rfl
  · rw [h, ho 1 (by omega), ho 2 (by omega), ho 3 (by omega), ho 4 (by omega)]
    simp only [Nat.mul_zero, Nat.pow_zero, Nat.mul_one]; omega
  · rw [h, ho 0 (by omega), ho 2 (by omega), ho 3 (by omega), ho 4 (by omega)]
    simp only [Nat.reduceMul, Nat.add_mul]; omega
  · rw [h, ho 0 (by omega), ho 1 (by omega), ho 3 (by omega), ho 4 (by omega)]
    simp only [Nat.reduceMul, Nat.add_mul]; omega
  · rw [h, ho 0 (by omega), ho 1 (by omega), ho 2 (by omega), ho 4 (by omega)]
    simp only [Nat.reduceMul, Nat.add_mul]; omega
  · rw [h, ho 0 (by omega), ho 1 (by omega), ho 2 (by omega), ho 3 (by omega)]
    simp only [Nat.reduceMul, Nat.add_mul]; omega
def wt (k : Nat) : Nat → Nat
  | 0 => 0
  | i + 1 => wt k i + (if i ≤ k then 1 else 19)
def lim : Nat := 2251799813693440
def MulIn (x y : Nat → BitVec 64) (i j : Nat) (g : Nat → BitVec 64) : Prop :=
  (∃ q, lsum g + pP * q = sumD 51 (fun i => (x i).toNat) i * val y + (x i).toNat * 2 ^ (51 * i) * sumD 51 (fun i => (y i).toNat) j) ∧
  ∀ k, k < 5 → lng g k ≤ (wt k i + (if (k + 5 - i) % 5 < j then (if i ≤ k then 1 else 19) else 0)) * (lim * lim)
theorem wt_le (k : Nat) : ∀ i, wt k i ≤ 19 * i
  | 0 => Nat.le_refl _
  | i + 1 => by have := wt_le k i; simp only [wt]; split <;> omega
theorem lim_sq : lim * lim = 5070602400949811094134299033600 := by decide +kernel
theorem MulIn.start (x y : Nat → BitVec 64) : MulIn x y 0 0 (fun _ => 0) := by
  refine ⟨⟨0, by simp [sumD, lsum, lng]⟩, fun k _ => by simp [lng]⟩
theorem prod_le {a b : Nat} (ha : a ≤ lim) (hb : b ≤ lim) : a * b ≤ lim * lim := Nat.mul_le_mul ha hb
theorem mul_fold (A B d y Y Q P W p L q R : Nat) (hW : p + 19 = W) (h : L + p * q = A * B + d * Q * Y) (hQ : Q * P = W * R) : L + d * 19 * y * R + p * (q + d * y * R) = A * B + d * Q * (Y + y * P) := by
  have e1 : d * Q * (Y + y * P) = d * Q * Y + d * y * (Q * P) := by rw [Nat.mul_add]; congr 1; ac_rfl
  rw [e1, hQ, ← hW, Nat.add_mul, Nat.mul_add (d * y), Nat.mul_add p]
  have e2 : d * 19 * y * R = d * y * (19 * R) := by ac_rfl
  have e3 : p * (d * y * R) = d * y * (p * R) := by ac_rfl
  omega
theorem mul_plain (A B d y Y Q P p L q : Nat) (h : L + p * q = A * B + d * Q * Y) : L + d * y * (Q * P) + p * q = A * B + d * Q * (Y + y * P) := by
  have e1 : d * Q * (Y + y * P) = d * Q * Y + d * y * (Q * P) := by rw [Nat.mul_add]; congr 1; ac_rfl
  omega
theorem MulIn.step {x y : Nat → BitVec 64} {i j : Nat} {g : Nat → BitVec 64} (hx : Ok x) (hy : Ok y) (hi : i < 5) (hj : j < 5) (h : MulIn x y i j g) (hij : i + j < 5) : MulIn x y i (j + 1) (addG g (2 * (i + j)) (x i) (y j)) := by
  obtain ⟨⟨q, hq⟩, hb⟩ := h
  have hp := prod_le (hx i hi) (hy j hj)
  have hk := hb (i + j) hij
  have hw := wt_le (i + j) i
  have h0 : ¬ (i + j + 5 - i) % 5 < j := by omega
  rw [if_neg h0, Nat.add_zero] at hk
  have hs : lng g (i + j) + (x i).toNat * (y j).toNat < 340282366920938463463374607431768211456 := by
    have h1 : wt (i + j) i * (lim * lim) ≤ 95 * (lim * lim) := Nat.mul_le_mul_right _ (by omega)
    rw [lim_sq] at h1 hp hk
    omega
  refine ⟨⟨q, ?_⟩, fun k hk5 => ?_⟩
  · rw [lsum_add g (i + j) hij _ _ hs, Nat.mul_add 51 i j, Nat.pow_add]
    exact mul_plain _ _ _ _ _ _ _ _ _ _ hq
  · by_cases hkk : k = i + j
    · subst hkk
      rw [addG_lng g (i + j) _ _ hs, if_pos (by omega), if_pos (by omega), Nat.add_mul, Nat.one_mul]
      omega
    · rw [addG_other g (i + j) k _ _ hkk]
      refine Nat.le_trans (hb k hk5) (Nat.mul_le_mul_right _ ?_)
      have : (k + 5 - i) % 5 ≠ j := by omega
      by_cases h2 : (k + 5 - i) % 5 < j
      · rw [if_pos h2, if_pos (show (k + 5 - i) % 5 < j + 1 by omega)]; omega
      · rw [if_neg h2, if_neg (show ¬ (k + 5 - i) % 5 < j + 1 by omega)]; omega
theorem MulIn.stepF {x y : Nat → BitVec 64} {i j : Nat} {g : Nat → BitVec 64} (hx : Ok x) (hy : Ok y) (hi : i < 5) (hj : j < 5) (h : MulIn x y i j g) (hij : ¬ i + j < 5) : MulIn x y i (j + 1) (addG g (2 * (i + j - 5)) (x i * 19#64) (y j)) := by
  obtain ⟨⟨q, hq⟩, hb⟩ := h
  have h19 : (x i * 19#64).toNat = (x i).toNat * 19 := by
    have h1 := hx i hi
    have e : (19#64).toNat = 19 := rfl
    rw [BitVec.toNat_mul, e]; omega
  have hp := prod_le (hx i hi) (hy j hj)
  have hp19 : (x i).toNat * 19 * (y j).toNat = 19 * ((x i).toNat * (y j).toNat) := by ac_rfl
  have hk := hb (i + j - 5) (by omega)
  have hw := wt_le (i + j - 5) i
  have h0 : ¬ (i + j - 5 + 5 - i) % 5 < j := by omega
  rw [if_neg h0, Nat.add_zero] at hk
  have hs : lng g (i + j - 5) + (x i * 19#64).toNat * (y j).toNat < 340282366920938463463374607431768211456 := by
    have h1 : wt (i + j - 5) i * (lim * lim) ≤ 95 * (lim * lim) := Nat.mul_le_mul_right _ (by omega)
    rw [h19, hp19]
    rw [lim_sq] at h1 hp hk
    omega
  refine ⟨⟨q + (x i).toNat * (y j).toNat * 2 ^ (51 * (i + j - 5)), ?_⟩, fun k hk5 => ?_⟩
  · rw [lsum_add g (i + j - 5) (by omega) _ _ hs, h19]
    refine mul_fold _ _ _ _ _ _ _ _ _ _ _ _ pP_eq hq ?_
    rw [← Nat.pow_add, ← Nat.pow_add]
    congr 1
    omega
  · by_cases hkk : k = i + j - 5
    · subst hkk
      rw [addG_lng g (i + j - 5) _ _ hs, h19, hp19, if_pos (by omega), if_neg (by omega), Nat.add_mul]
      omega
    · rw [addG_other g (i + j - 5) k _ _ hkk]
      refine Nat.le_trans (hb k hk5) (Nat.mul_le_mul_right _ ?_)
      have : (k + 5 - i) % 5 ≠ j := by omega
      by_cases h2 : (k + 5 - i) % 5 < j
      · rw [if_pos h2, if_pos (show (k + 5 - i) % 5 < j + 1 by omega)]; omega
      · rw [if_neg h2, if_neg (show ¬ (k + 5 - i) % 5 < j + 1 by omega)]; omega
theorem sumD5 (x : Nat → BitVec 64) : sumD 51 (fun i => (x i).toNat) 5 = val x := rfl
theorem sumD_succ' (w : Nat) (f : Nat → Nat) (k : Nat) : sumD w f (k + 1) = sumD w f k + f k * 2 ^ (w * k) := rfl
theorem sumD_zero' (w : Nat) (f : Nat → Nat) : sumD w f 0 = 0 := rfl
theorem MulIn.next {x y : Nat → BitVec 64} {i : Nat} {g : Nat → BitVec 64} (_hi : i < 5) (h : MulIn x y i 5 g) : MulIn x y (i + 1) 0 g := by
  obtain ⟨⟨q, hq⟩, hb⟩ := h
  refine ⟨⟨q, ?_⟩, fun k hk5 => ?_⟩
  · rw [hq, sumD5, sumD_succ', sumD_zero', Nat.add_mul, Nat.mul_zero, Nat.add_zero]
  · have := hb k hk5
    rw [if_pos (by omega)] at this
    rw [if_neg (by omega)]
    exact this
def lowOf (g : Nat → BitVec 64) (k : Nat) : BitVec 64 := g (2 * k + 1) &&& 2251799813685247#64
def carOf (g : Nat → BitVec 64) (k : Nat) : BitVec 64 := g (2 * k) <<< 13 ||| g (2 * k + 1) >>> 51
theorem lowOf_toNat (g : Nat → BitVec 64) (k : Nat) : (lowOf g k).toNat = lng g k % 2251799813685248 := by
  unfold lowOf lng
  rw [and_mask]
  omega
theorem car_or (h l : Nat) (hl : l < 18446744073709551616) (hs : h * 18446744073709551616 + l < 41538374868278621028243970633760768) : h * 8192 % 18446744073709551616 ||| l / 2251799813685248 = (h * 18446744073709551616 + l) / 2251799813685248 := by
  have h0 : h < 2251799813685248 := by
    rcases Nat.lt_or_ge h 2251799813685248 with h5 | h5
    · exact h5
    · have := Nat.mul_le_mul_right 18446744073709551616 h5
      omega
  have h1 : h * 8192 < 18446744073709551616 := by clear hs hl; omega
  have h2 : l / 2251799813685248 < 2 ^ 13 := by clear hs h0 h1; omega
  have h3 := Nat.shiftLeft_add_eq_or_of_lt h2 h
  rw [Nat.shiftLeft_eq] at h3
  rw [Nat.mod_eq_of_lt h1, show (8192 : Nat) = 2 ^ 13 from rfl, ← h3]
  omega
theorem carOf_toNat (g : Nat → BitVec 64) (k : Nat) (h : lng g k < 41538374868278621028243970633760768) : (carOf g k).toNat = lng g k / 2251799813685248 := by
  have add0 : (carOf g k).toNat = (g (2 * k)).toNat * 8192 % 18446744073709551616 ||| (g (2 * k + 1)).toNat / 2251799813685248 := by
    unfold carOf
    rw [BitVec.toNat_or, BitVec.toNat_shiftLeft, shr51, Nat.shiftLeft_eq]
  rw [add0]
  exact car_or _ _ (g (2 * k + 1)).isLt h
def outTo (g : Nat → BitVec 64) (k : Nat) : Nat → BitVec 64 := fun i => if i < k then (if i = 0 then 0 + lowOf g 0 else 0 + carOf g (i - 1) + lowOf g i) else if i = k ∧ 0 < k ∧ k < 5 then 0 + carOf g (k - 1) else 0
def outAll (g : Nat → BitVec 64) : Nat → BitVec 64 := fun i => if i = 0 then 0 + lowOf g 0 + carOf g 4 * 19#64 else 0 + carOf g (i - 1) + lowOf g i
theorem outTo_zero (g : Nat → BitVec 64) : outTo g 0 = fun _ => 0 := by
  funext i
  unfold outTo
  rw [if_neg (by omega), if_neg (by omega)]
theorem outTo_self (g : Nat → BitVec 64) (k : Nat) (hk : k < 5) : outTo g k k = if k = 0 then 0 else 0 + carOf g (k - 1) := by
  unfold outTo
  rw [if_neg (Nat.lt_irrefl k)]
  by_cases h : k = 0
  · subst h; rw [if_neg (by omega), if_pos rfl]
  · rw [if_pos (by omega), if_neg h]
theorem outTo_high (g : Nat → BitVec 64) (k i : Nat) (h : k < i) : outTo g k i = 0 := by
  unfold outTo
  rw [if_neg (by omega), if_neg (by omega)]
theorem outTo_step (g : Nat → BitVec 64) (k : Nat) (hk : k + 1 < 5) : upd (upd (outTo g k) k (outTo g k k + lowOf g k)) (k + 1) (upd (outTo g k) k (outTo g k k + lowOf g k) (k + 1) + carOf g k) = outTo g (k + 1) := by
  funext i
  have e : upd (outTo g k) k (outTo g k k + lowOf g k) (k + 1) = 0 := by
    unfold upd
    rw [if_neg (by omega), outTo_high g k (k + 1) (by omega)]
  rw [e, outTo_self g k (by omega)]
  by_cases h1 : i = k + 1
  · subst h1
    unfold upd
    rw [if_pos rfl]
    rw [outTo_self g (k + 1) hk, if_neg (by omega)]
    rfl
  · unfold upd
    rw [if_neg h1]
    by_cases h2 : i = k
    · subst h2
      rw [if_pos rfl]
      unfold outTo
      rw [if_pos (show i < i + 1 by omega)]
      by_cases h3 : i = 0
      · subst h3; rw [if_pos rfl, if_pos rfl]
      · rw [if_neg h3, if_neg h3]
    · rw [if_neg h2]
      unfold outTo
      by_cases h3 : i < k
      · rw [if_pos h3, if_pos (show i < k + 1 by omega)]
      · rw [if_neg h3, if_neg (by omega), if_neg (by omega), if_neg (by omega)]
theorem outTo_last (g : Nat → BitVec 64) : cU 5 (upd (upd (outTo g 4) 4 (outTo g 4 4 + lowOf g 4)) 0 (upd (outTo g 4) 4 (outTo g 4 4 + lowOf g 4) 0 + carOf g 4 * 19#64)) = cU 5 (outAll g) := cU_congr fun i hi => by
  have e : upd (outTo g 4) 4 (outTo g 4 4 + lowOf g 4) 0 = 0 + lowOf g 0 := by
    unfold upd outTo
    rw [if_neg (by omega), if_pos (by omega), if_pos rfl]
  rw [e, outTo_self g 4 (by omega)]
  unfold upd outAll
  by_cases h : i = 0
  · subst h; rw [if_pos rfl, if_pos rfl]
  · rw [if_neg h, if_neg h]
    by_cases h4 : i = 4
    · subst h4; rw [if_pos rfl, if_neg (by omega)]
    · rw [if_neg h4]
      unfold outTo
      rw [if_pos (by omega), if_neg h]
theorem outAll_ok {g : Nat → BitVec 64} (hb : ∀ k, k < 5 → lng g k ≤ wt k 5 * (lim * lim)) : Ok (feCarry (outAll g)) ∧ val (feCarry (outAll g)) % pP = lsum g % pP := by
  have b0 : lng g 0 ≤ 77 * (lim * lim) := hb 0 (by omega)
  have b1 : lng g 1 ≤ 59 * (lim * lim) := hb 1 (by omega)
  have b2 : lng g 2 ≤ 41 * (lim * lim) := hb 2 (by omega)
  have b3 : lng g 3 ≤ 23 * (lim * lim) := hb 3 (by omega)
  have b4 : lng g 4 ≤ 5 * (lim * lim) := hb 4 (by omega)
  rw [lim_sq] at b0 b1 b2 b3 b4
  have c0 := carOf_toNat g 0 (by omega)
  have c1 := carOf_toNat g 1 (by omega)
  have c2 := carOf_toNat g 2 (by omega)
  have c3 := carOf_toNat g 3 (by omega)
  have c4 := carOf_toNat g 4 (by omega)
  have z0 : ∀ u : BitVec 64, (0 + u).toNat = u.toNat := fun u => by rw [show (0 : BitVec 64) + u = u from BitVec.zero_add u]
  have add0 : ∀ u v : BitVec 64, (u + v).toNat = (u.toNat + v.toNat) % 18446744073709551616 := fun u v => BitVec.toNat_add u v
  have mul0 : ∀ u v : BitVec 64, (u * v).toNat = (u.toNat * v.toNat) % 18446744073709551616 := fun u v => BitVec.toNat_mul u v
  have e19 : (19#64).toNat = 19 := rfl
  have o0 : (outAll g 0).toNat = lng g 0 % 2251799813685248 + lng g 4 / 2251799813685248 * 19 := by
    unfold outAll
    rw [if_pos rfl, add0, z0, mul0, lowOf_toNat, c4, e19]
    omega
  have oi : ∀ i, 0 < i → i < 5 → (carOf g (i - 1)).toNat = lng g (i - 1) / 2251799813685248 → lng g (i - 1) ≤ 77 * 5070602400949811094134299033600 → (outAll g i).toNat = lng g i % 2251799813685248 + lng g (i - 1) / 2251799813685248 := by
    intro i h0 _ hc hl
    unfold outAll
    rw [if_neg (by omega), add0, z0, lowOf_toNat, hc]
    omega
  have o1 := oi 1 (by omega) (by omega) c0 (by simp only [Nat.reduceSub]; omega)
  have o2 := oi 2 (by omega) (by omega) c1 (by simp only [Nat.reduceSub]; omega)
  have o3 := oi 3 (by omega) (by omega) c2 (by simp only [Nat.reduceSub]; omega)
  have o4 := oi 4 (by omega) (by omega) c3 (by simp only [Nat.reduceSub]; omega)
  simp only [Nat.reduceSub] at o1 o2 o3 o4
  have hsz : ∀ i, i < 5 → (outAll g i).toNat < 967140656725819392 := by
    intro i hi
    have : i = 0 ∨ i = 1 ∨ i = 2 ∨ i = 3 ∨ i = 4 := by omega
    rcases this with rfl | rfl | rfl | rfl | rfl
    · rw [o0]; omega
    · rw [o1]; omega
    · rw [o2]; omega
    · rw [o3]; omega
    · rw [o4]; omega
  obtain ⟨h1, h2⟩ := carry_ok hsz
  refine ⟨h1, h2.trans (mod_of_add (q := lng g 4 / 2251799813685248) ?_)⟩
  rw [val_def, o0, o1, o2, o3, o4, car_nat _ _ _ _ _ _ _ _ _ _ pP pP_eq]
  rw [Nat.div_add_mod, Nat.div_add_mod, Nat.div_add_mod, Nat.div_add_mod, Nat.div_add_mod]
  rfl
theorem feMul_ok {x y g : Nat → BitVec 64} (h : MulIn x y 5 0 g) : Ok (feCarry (outAll g)) ∧ val (feCarry (outAll g)) % pP = (val x * val y) % pP := by
  obtain ⟨⟨q, hq⟩, hb⟩ := h
  obtain ⟨h1, h2⟩ := outAll_ok (g := g) (fun k hk => by
    have := hb k hk
    rw [if_neg (by omega)] at this
    exact this)
  refine ⟨h1, h2.trans (mod_of_add (q := q) ?_)⟩
  rw [hq, sumD5, sumD_zero', Nat.mul_zero, Nat.add_zero]
end Go.Sym
namespace Go.Sym
open Go
def limb51 (n : Nat) : Nat → BitVec 64 := fun i => BitVec.ofNat 64 (n / 2 ^ (51 * i) % 2 ^ 51)
theorem limb51_toNat (n i : Nat) : (limb51 n i).toNat = n / 2 ^ (51 * i) % 2 ^ 51 := by
  unfold limb51
  rw [BitVec.toNat_ofNat]
  have : n / 2 ^ (51 * i) % 2 ^ 51 < 2 ^ 51 := Nat.mod_lt _ (by decide)
  omega
theorem limb51_val (n : Nat) : val (limb51 n) = n % 2 ^ 255 := by
  have h := sumD_of (w := 51) (n := n) (k := 5)
  unfold val
  rw [← show 2 ^ (51 * 5) = 2 ^ 255 from rfl, ← h]
  exact sumD_congr fun i _ => limb51_toNat n i
theorem limb51_ok (n : Nat) : Ok (limb51 n) := fun i _ => by
  rw [limb51_toNat]
  have : n / 2 ^ (51 * i) % 2 ^ 51 < 2 ^ 51 := Nat.mod_lt _ (by decide)
  omega
theorem limb51_get (n k i : Nat) : (limb51 n k).getLsbD i = (decide (i < 51) && n.testBit (51 * k + i)) := by
  unfold limb51
  rw [BitVec.getLsbD_ofNat, Nat.testBit_mod_two_pow, Nat.testBit_div_two_pow]
  by_cases h : i < 51
  · simp [h, show i < 64 by omega, Nat.add_comm]
  · simp [h]
theorem limb_get (n k i : Nat) : (limb n k).getLsbD i = (decide (i < 64) && n.testBit (64 * k + i)) := by
  unfold limb
  rw [BitVec.getLsbD_ofNat, Nat.testBit_div_two_pow, Nat.add_comm]
theorem mask_get (i : Nat) : (2251799813685247#64 : BitVec 64).getLsbD i = decide (i < 51) := by
  have h : (2251799813685247#64 : BitVec 64) = BitVec.ofNat 64 (2 ^ 51 - 1) := rfl
  rw [h, BitVec.getLsbD_ofNat, Nat.testBit_two_pow_sub_one]
  by_cases h : i < 51
  · simp [h, show i < 64 by omega]
  · simp [h]
theorem take_two (n j k s : Nat) (hs : s ≤ 64) (h : 64 * j + s = 51 * k) : (limb n j >>> s ||| limb n (j + 1) <<< (64 - s)) &&& 2251799813685247#64 = limb51 n k := by
  apply BitVec.eq_of_getLsbD_eq
  intro i hi
  rw [BitVec.getLsbD_and, BitVec.getLsbD_or, BitVec.getLsbD_ushiftRight, BitVec.getLsbD_shiftLeft, limb_get, limb_get, limb51_get, mask_get]
  by_cases h51 : i < 51
  · simp only [h51, hi, decide_true, Bool.true_and, Bool.and_true]
    by_cases hlo : s + i < 64
    · have : i < 64 - s := by omega
      simp only [hlo, this, decide_true, Bool.true_and, Bool.not_true, Bool.false_and, Bool.or_false]
      congr 1; omega
    · have h1 : ¬ i < 64 - s := by omega
      simp only [hlo, h1, decide_false, Bool.false_and, Bool.not_false, Bool.true_and, Bool.false_or, show i - (64 - s) < 64 by omega, decide_true]
      congr 1; omega
  · simp [h51]
theorem take_one (n j k s : Nat) (hs : s + 51 ≤ 64) (h : 64 * j + s = 51 * k) : limb n j >>> s &&& 2251799813685247#64 = limb51 n k := by
  apply BitVec.eq_of_getLsbD_eq
  intro i hi
  rw [BitVec.getLsbD_and, BitVec.getLsbD_ushiftRight, limb_get, limb51_get, mask_get]
  by_cases h51 : i < 51
  · simp only [h51, show s + i < 64 by omega, decide_true, Bool.true_and, Bool.and_true]
    congr 1; omega
  · simp [h51]
theorem take_low (n : Nat) : limb n 0 &&& 2251799813685247#64 = limb51 n 0 := by
  have := take_one n 0 0 0 (by decide) rfl
  rwa [BitVec.ushiftRight_zero] at this
theorem from_cells (n : Nat) : cU 5 (lst 0 [limb n 0 &&& 2251799813685247#64, (limb n 0 >>> 51 ||| limb n 1 <<< 13) &&& 2251799813685247#64, (limb n 1 >>> 38 ||| limb n 2 <<< 26) &&& 2251799813685247#64, (limb n 2 >>> 25 ||| limb n 3 <<< 39) &&& 2251799813685247#64, limb n 3 >>> 12 &&& 2251799813685247#64]) = cU 5 (limb51 n) := by
  rw [take_low, take_two n 0 1 51 (by decide) rfl, take_two n 1 2 38 (by decide) rfl, take_two n 2 3 25 (by decide) rfl, take_one n 3 4 12 (by decide) rfl]
  rfl
def chn (c : Nat) (x : Nat → BitVec 64) (k : Nat) : Nat := (c + sumD 51 (fun i => (x i).toNat) k) / 2 ^ (51 * k)
theorem chn_zero (c : Nat) (x : Nat → BitVec 64) : chn c x 0 = c := by simp [chn, sumD]
theorem chn_add (c : Nat) (x : Nat → BitVec 64) (k : Nat) : (x k).toNat + chn c x k = (c + sumD 51 (fun i => (x i).toNat) (k + 1)) / 2 ^ (51 * k) := by
  unfold chn
  rw [sumD_succ', ← Nat.add_assoc, Nat.add_mul_div_right _ _ (Nat.two_pow_pos _), Nat.add_comm]
theorem chn_succ (c : Nat) (x : Nat → BitVec 64) (k : Nat) : chn c x (k + 1) = ((x k).toNat + chn c x k) / 2251799813685248 := by
  rw [chn_add, Nat.div_div_eq_div_mul, show (2251799813685248 : Nat) = 2 ^ 51 from rfl, ← Nat.pow_add]
  rfl
theorem chn_le {c : Nat} {x : Nat → BitVec 64} (hc : c ≤ 19) (hx : ∀ i, i < 5 → (x i).toNat ≤ 4503599627370496) : ∀ k, k ≤ 5 → chn c x k ≤ 19
  | 0, _ => by rw [chn_zero]; exact hc
  | k + 1, hk => by
    have h1 := chn_le hc hx k (by omega)
    have h2 := hx k (by omega)
    rw [chn_succ]
    omega
theorem high_drop (a x m w r : Nat) (hm : 0 < m) : (a + x * (m * (w * r))) / m % w = a / m % w := by
  rw [Nat.mul_left_comm, Nat.add_mul_div_left _ _ hm, Nat.mul_left_comm, Nat.add_mul_mod_self_left]
theorem chn_digit (c : Nat) (x : Nat → BitVec 64) (k d : Nat) : ((x k).toNat + chn c x k) % 2 ^ 51 = (c + sumD 51 (fun i => (x i).toNat) (k + 1 + d)) / 2 ^ (51 * k) % 2 ^ 51 := by
  induction d with
  | zero => rw [chn_add, Nat.add_zero]
  | succ d ih =>
    rw [ih, show k + 1 + (d + 1) = (k + 1 + d) + 1 by omega, sumD_succ' 51 _ (k + 1 + d), ← Nat.add_assoc]
    have e : 2 ^ (51 * (k + 1 + d)) = 2 ^ (51 * k) * (2 ^ 51 * 2 ^ (51 * d)) := by
      rw [← Nat.pow_add, ← Nat.pow_add]; congr 1; omega
    rw [e]
    exact (high_drop _ _ _ _ _ (Nat.two_pow_pos _)).symm
def leTo (x : Nat → BitVec 64) (c k : Nat) : Nat → BitVec 64 := fun i => if i < k then limb51 (c + val x) i else x i
theorem chn_bv {c : Nat} {x : Nat → BitVec 64} (hc : c ≤ 19) (hx : ∀ i, i < 5 → (x i).toNat ≤ 4503599627370496) (k : Nat) (hk : k ≤ 5) : (BitVec.ofNat 64 (chn c x k)).toNat = chn c x k := by
  rw [BitVec.toNat_ofNat]
  have := chn_le hc hx k hk
  omega
theorem chn_step {c : Nat} {x : Nat → BitVec 64} (hc : c ≤ 19) (hx : ∀ i, i < 5 → (x i).toNat ≤ 4503599627370496) (k : Nat) (hk : k < 5) (u v : BitVec 64) (hu : u.toNat + v.toNat = (x k).toNat + chn c x k) : (u + v) >>> 51 = BitVec.ofNat 64 (chn c x (k + 1)) := by
  apply BitVec.eq_of_toNat_eq
  have h1 := chn_le hc hx k (by omega)
  have h2 := hx k hk
  rw [chn_bv hc hx (k + 1) (by omega), shr51, BitVec.toNat_add, chn_succ, hu]
  omega
theorem leTo_zero (x : Nat → BitVec 64) (c : Nat) : leTo x c 0 = x := by funext i; exact if_neg (Nat.not_lt_zero i)
theorem leTo_self (x : Nat → BitVec 64) (c k : Nat) : leTo x c k k = x k := if_neg (Nat.lt_irrefl k)
theorem leTo_step {c : Nat} {x : Nat → BitVec 64} (hc : c ≤ 19) (hx : ∀ i, i < 5 → (x i).toNat ≤ 4503599627370496) (k : Nat) (hk : k < 5) : upd (leTo x c k) k ((BitVec.ofNat 64 (chn c x k) + x k) &&& 2251799813685247#64) = leTo x c (k + 1) := by
  have e : (BitVec.ofNat 64 (chn c x k) + x k) &&& 2251799813685247#64 = limb51 (c + val x) k := by
    apply BitVec.eq_of_toNat_eq
    have h1 := chn_le hc hx k (by omega)
    have h2 := hx k hk
    rw [and_mask, BitVec.toNat_add, chn_bv hc hx k (by omega), limb51_toNat]
    have h3 := chn_digit c x k (4 - k)
    rw [show k + 1 + (4 - k) = 5 by omega, sumD5] at h3
    rw [← h3]
    omega
  rw [e]
  funext i
  unfold upd leTo
  by_cases h : i = k
  · subst h; rw [if_pos rfl, if_pos (by omega)]
  · rw [if_neg h]
    by_cases h2 : i < k
    · rw [if_pos h2, if_pos (by omega)]
    · rw [if_neg h2, if_neg (by omega)]
theorem carried_small {x : Nat → BitVec 64} (hx : Ok x) : (∀ i, i < 5 → (feCarry x i).toNat ≤ 4503599627370496) ∧ val (feCarry x) < 2 * pP ∧ val (feCarry x) % pP = val x % pP := by
  have hb : ∀ i, i < 5 → (x i).toNat / 2251799813685248 ≤ 1 := fun i hi => by have := hx i hi; omega
  have h4 : (x 4).toNat / 2251799813685248 * 19 + 2251799813685248 < 18446744073709551616 := by have := hb 4 (by omega); omega
  have h5 : ∀ i, i < 5 → (x i).toNat / 2251799813685248 + 2251799813685248 < 18446744073709551616 := fun i hi => by have := hb i hi; omega
  obtain ⟨h0, h1⟩ := feCarry_val x h4 h5
  have k0 : (feCarry x 0).toNat ≤ 2251799813685266 := by
    rw [h0]
    have := hb 4 (by omega)
    have := Nat.mod_lt (x 0).toNat (show 0 < 2251799813685248 by decide)
    omega
  have ki : ∀ i, 0 < i → i < 5 → (feCarry x i).toNat ≤ 2251799813685248 := fun i hi0 hi => by
    rw [h1 i hi0 hi]
    have := hb (i - 1) (by omega)
    have := Nat.mod_lt (x i).toNat (show 0 < 2251799813685248 by decide)
    omega
  refine ⟨fun i hi => ?_, ?_, mod_of_add (feCarry_sum x h4 h5)⟩
  · by_cases h : i = 0
    · subst h; omega
    · have := ki i (by omega) hi
      omega
  · have k1 := ki 1 (by omega) (by omega)
    have k2 := ki 2 (by omega) (by omega)
    have k3 := ki 3 (by omega) (by omega)
    have k4 := ki 4 (by omega) (by omega)
    have hp := pP_eq
    rw [val_def]
    omega
theorem reach_p {x : Nat → BitVec 64} (h : val x < 2 * pP) : chn 19 x 5 = if val x < pP then 0 else 1 := by
  unfold chn
  rw [sumD5]
  have hp := pP_eq
  rw [show 51 * 5 = 255 from rfl, ← hp]
  have h0 : 0 < pP + 19 := by omega
  split
  · exact Nat.div_eq_of_lt (by omega)
  · rw [Nat.div_eq_iff h0]
    have : pP + 19 = 2 ^ 255 := hp
    have : 19 < pP := by decide +kernel
    omega
theorem least_num {x : Nat → BitVec 64} (h : val x < 2 * pP) : (19 * chn 19 x 5 + val x) % 2 ^ 255 = val x % pP := by
  rw [reach_p h, ← pP_eq]
  split
  · rename_i hlt
    rw [Nat.mul_zero, Nat.zero_add, Nat.mod_eq_of_lt (by omega), Nat.mod_eq_of_lt hlt]
  · rename_i hlt
    rw [Nat.mul_one, Nat.mod_eq_sub_mod (show pP ≤ val x by omega), Nat.mod_eq_sub_mod (show pP + 19 ≤ 19 + val x by omega), Nat.mod_eq_of_lt (by omega), Nat.mod_eq_of_lt (by omega)]
    omega
theorem limb51_mod (n i : Nat) (hi : i < 5) : limb51 (n % 2 ^ 255) i = limb51 n i := by
  apply BitVec.eq_of_toNat_eq
  rw [limb51_toNat, limb51_toNat]
  have e : (2 : Nat) ^ 255 = 2 ^ (51 * i) * (2 ^ 51 * 2 ^ (204 - 51 * i)) := by rw [← Nat.pow_add, ← Nat.pow_add]; congr 1; omega
  rw [e, Nat.mod_mul_right_div_self, Nat.mod_mul_right_mod]
theorem least_cells {x : Nat → BitVec 64} (hx : Ok x) : cU 5 (leTo (feCarry x) (19 * chn 19 (feCarry x) 5) 5) = cU 5 (limb51 (val x % pP)) := cU_congr fun i hi => by
  obtain ⟨_, h2, h3⟩ := carried_small hx
  unfold leTo
  rw [if_pos hi, ← limb51_mod _ i hi, least_num h2, h3]
theorem q_le {x : Nat → BitVec 64} (h : val x < 2 * pP) : 19 * chn 19 x 5 ≤ 19 := by rw [reach_p h]; split <;> omega
theorem mul19 {x : Nat → BitVec 64} (h : val x < 2 * pP) : BitVec.ofNat 64 (chn 19 x 5) * 19#64 = BitVec.ofNat 64 (chn (19 * chn 19 x 5) x 0) := by
  rw [chn_zero, reach_p h]
  split <;> rfl
theorem byt_or (n i : Nat) (b : BitVec 8) (hn : n < 2 ^ i) (hb : b.toNat < 2) : upd (byt n) (i / 8) (byt n (i / 8) ||| b <<< (i % 8)) = byt (n + b.toNat * 2 ^ i) := by
  have e : 2 ^ i = 2 ^ (8 * (i / 8)) * 2 ^ (i % 8) := by rw [← Nat.pow_add]; congr 1; omega
  have hp : 0 < 2 ^ (8 * (i / 8)) := Nat.two_pow_pos _
  funext j
  unfold upd
  apply BitVec.eq_of_toNat_eq
  by_cases hj : j = i / 8
  · subst hj
    rw [if_pos rfl, BitVec.toNat_or, byt_toNat, byt_toNat, BitVec.toNat_shiftLeft, e, ← Nat.mul_assoc, Nat.mul_comm b.toNat, Nat.mul_assoc, Nat.add_mul_div_left _ _ hp]
    have hq : n / 2 ^ (8 * (i / 8)) < 2 ^ (i % 8) := by rw [Nat.div_lt_iff_lt_mul hp, Nat.mul_comm, ← e]; exact hn
    have h7 : 2 ^ (i % 8) ≤ 2 ^ 7 := Nat.pow_le_pow_right (by decide) (by omega)
    have hprod : b.toNat * 2 ^ (i % 8) < 2 ^ 8 := by
      have := Nat.mul_le_mul (show b.toNat ≤ 1 by omega) h7
      omega
    rw [Nat.mod_eq_of_lt (a := n / 2 ^ (8 * (i / 8))) (by omega), Nat.shiftLeft_eq, Nat.mod_eq_of_lt hprod]
    have h1 : n / 2 ^ (8 * (i / 8)) ||| b.toNat * 2 ^ (i % 8) = n / 2 ^ (8 * (i / 8)) + b.toNat * 2 ^ (i % 8) := by
      rw [Nat.or_comm, ← Nat.shiftLeft_eq, ← Nat.shiftLeft_add_eq_or_of_lt hq, Nat.add_comm]
    rw [h1]
    have h2 : b.toNat * 2 ^ (i % 8) ≤ 1 * 2 ^ (i % 8) := Nat.mul_le_mul_right _ (by omega)
    exact (Nat.mod_eq_of_lt (by omega)).symm
  · rw [if_neg hj, byt_toNat, byt_toNat]
    by_cases hlt : j < i / 8
    · have e2 : 2 ^ i = 2 ^ (8 * j) * (2 ^ 8 * 2 ^ (i - 8 * j - 8)) := by rw [← Nat.pow_add, ← Nat.pow_add]; congr 1; omega
      rw [e2, ← Nat.mul_assoc, Nat.mul_comm b.toNat, Nat.mul_assoc, Nat.add_mul_div_left _ _ (Nat.two_pow_pos _), Nat.mul_left_comm, Nat.add_mul_mod_self_left]
    · have hge : 2 ^ (i + 1) ≤ 2 ^ (8 * j) := Nat.pow_le_pow_right (by decide) (by omega)
      have h2 : b.toNat * 2 ^ i ≤ 1 * 2 ^ i := Nat.mul_le_mul_right _ (by omega)
      rw [Nat.pow_succ] at hge
      rw [Nat.div_eq_of_lt (by omega), Nat.div_eq_of_lt (by omega)]
theorem bit51 (n i : Nat) : ((limb51 n (i / 51) >>> (i % 51) &&& 1#64).setWidth 8).toNat = n / 2 ^ i % 2 := by
  have e1 : ∀ q : Nat, q &&& (1#64).toNat = q % 2 := fun q => Nat.and_two_pow_sub_one_eq_mod q 1
  rw [BitVec.toNat_setWidth, BitVec.toNat_and, e1, BitVec.toNat_ushiftRight, limb51_toNat, Nat.shiftRight_eq_div_pow]
  have e : 2 ^ i = 2 ^ (51 * (i / 51)) * 2 ^ (i % 51) := by rw [← Nat.pow_add]; congr 1; omega
  rw [e, ← Nat.div_div_eq_div_mul]
  generalize n / 2 ^ (51 * (i / 51)) = m
  have e2 : (2 : Nat) ^ 51 = 2 ^ (i % 51) * (2 * 2 ^ (50 - i % 51)) := by rw [← Nat.pow_succ', ← Nat.pow_add]; congr 1; omega
  have e3 : m % 2 ^ 51 / 2 ^ (i % 51) % 2 = m / 2 ^ (i % 51) % 2 := by rw [e2, Nat.mod_mul_right_div_self, Nat.mod_mul_right_mod]
  rw [e3]
  have : m / 2 ^ (i % 51) % 2 < 2 := Nat.mod_lt _ (by decide)
  omega
theorem bytes_step (n i : Nat) : upd (byt (n % 2 ^ i)) (i / 8) (byt (n % 2 ^ i) (i / 8) ||| ((limb51 n (i / 51) >>> (i % 51) &&& 1#64).setWidth 8) <<< (i % 8)) = byt (n % 2 ^ (i + 1)) := by
  have hb := bit51 n i
  rw [byt_or (n % 2 ^ i) i _ (Nat.mod_lt _ (Nat.two_pow_pos _)) (by rw [hb]; exact Nat.mod_lt _ (by decide)), hb, Nat.pow_succ, Nat.mod_mul, Nat.mul_comm (2 ^ i)]
end Go.Sym
namespace Go.Sym
open Go
def fil {α : Type} (z : α) (g : Nat → α) : Nat → Nat → α
  | 0 => fun _ => z
  | k + 1 => upd (fil z g k) k (g k)
theorem fil_get {α : Type} (z : α) (g : Nat → α) : ∀ (k i : Nat), fil z g k i = if i < k then g i else z := by
  intro k
  induction k with
  | zero => intro i; rw [if_neg (by omega)]; rfl
  | succ k ih =>
    intro i
    show upd _ _ _ i = _
    unfold upd
    by_cases h : i = k
    · subst h; rw [if_pos rfl, if_pos (by omega)]
    · rw [if_neg h, ih]
      by_cases h2 : i < k
      · rw [if_pos h2, if_pos (by omega)]
      · rw [if_neg h2, if_neg (by omega)]
theorem cB_fil (m : Nat) (z : BitVec 8) (g : Nat → BitVec 8) : cB m (fil z g m) = cB m g := cB_congr fun i hi => by rw [fil_get, if_pos hi]
theorem cU_fil (m : Nat) (z : BitVec 64) (g : Nat → BitVec 64) : cU m (fil z g m) = cU m g := cU_congr fun i hi => by rw [fil_get, if_pos hi]
theorem upd_ne {α : Type} (f : Nat → α) {i j : Nat} (v : α) (h : j ≠ i) : upd f i v j = f j := by unfold upd; rw [if_neg h]
theorem upd_self {α : Type} (f : Nat → α) (i : Nat) (v : α) : upd f i v i = v := by unfold upd; rw [if_pos rfl]
theorem of_step (f : Nat → BitVec 8) (k : Nat) : upd (limb (natB f k)) (k / 8) (limb (natB f k) (k / 8) ||| (f k).setWidth 64 <<< (k % 8 * 8)) = limb (natB f (k + 1)) := by
  rw [limb_or _ _ k (natB_lt f k) (f k).isLt _ (by rw [BitVec.toNat_setWidth]; have := (f k).isLt; omega)]
  rfl
theorem limb_zero : limb 0 = fun _ => 0 := by funext i; unfold limb; rw [Nat.zero_div]; rfl
def mapTo (x z : Nat → BitVec 64) (k : Nat) : Nat → BitVec 64 := fun i => if i < k then z i else x i
theorem mapTo_zero (x z : Nat → BitVec 64) : mapTo x z 0 = x := by funext i; exact if_neg (Nat.not_lt_zero i)
theorem mapTo_self (x z : Nat → BitVec 64) (k : Nat) : mapTo x z k k = x k := if_neg (Nat.lt_irrefl k)
theorem mapTo_step (x z : Nat → BitVec 64) (k : Nat) : upd (mapTo x z k) k (z k) = mapTo x z (k + 1) := by
  funext i
  unfold upd mapTo
  by_cases h : i = k
  · subst h; rw [if_pos rfl, if_pos (by omega)]
  · rw [if_neg h]
    by_cases h2 : i < k
    · rw [if_pos h2, if_pos (by omega)]
    · rw [if_neg h2, if_neg (by omega)]
theorem cU_mapTo (m : Nat) (x z : Nat → BitVec 64) : cU m (mapTo x z m) = cU m z := cU_congr fun _ hi => if_pos hi
theorem mapTo_one (x z : Nat → BitVec 64) : mapTo x z 1 = upd x 0 (z 0) := by
  rw [← mapTo_step x z 0, mapTo_zero]
theorem sub_step1 (x : Nat → BitVec 64) (k : Nat) (hk : 1 ≤ k) : upd (mapTo x (fun i => x i + subP i) k) k (mapTo x (fun i => x i + subP i) k k + 4503599627370494#64) = mapTo x (fun i => x i + subP i) (k + 1) := by
  have h : subP k = 4503599627370494#64 := if_neg (by omega)
  rw [mapTo_self, ← h]
  exact mapTo_step x (fun i => x i + subP i) k
def rowG (x y : Nat → BitVec 64) (i : Nat) : Nat → (Nat → BitVec 64) → Nat → BitVec 64
  | 0, f => f
  | j + 1, f => if i + j < 5 then addG (rowG x y i j f) (2 * (i + j)) (x i) (y j) else addG (rowG x y i j f) (2 * (i + j - 5)) (x i * 19#64) (y j)
def mulG (x y : Nat → BitVec 64) : Nat → Nat → BitVec 64
  | 0 => fun _ => 0
  | i + 1 => rowG x y i 5 (mulG x y i)
theorem rowG_lo (x y : Nat → BitVec 64) (i j : Nat) (f : Nat → BitVec 64) (h : i + j < 5) : rowG x y i (j + 1) f = addG (rowG x y i j f) (2 * (i + j)) (x i) (y j) := if_pos h
theorem rowG_hi (x y : Nat → BitVec 64) (i j : Nat) (f : Nat → BitVec 64) (h : ¬ i + j < 5) : rowG x y i (j + 1) f = addG (rowG x y i j f) (2 * (i + j - 5)) (x i * 19#64) (y j) := if_neg h
theorem rowG_in {x y : Nat → BitVec 64} (hx : Ok x) (hy : Ok y) {i : Nat} (hi : i < 5) {f : Nat → BitVec 64} (h : MulIn x y i 0 f) : ∀ j, j ≤ 5 → MulIn x y i j (rowG x y i j f) := by
  intro j
  induction j with
  | zero => intro _; exact h
  | succ j ih =>
    intro hj
    by_cases hij : i + j < 5
    · rw [rowG_lo _ _ _ _ _ hij]; exact (ih (by omega)).step hx hy hi (by omega) hij
    · rw [rowG_hi _ _ _ _ _ hij]; exact (ih (by omega)).stepF hx hy hi (by omega) hij
theorem mulG_in {x y : Nat → BitVec 64} (hx : Ok x) (hy : Ok y) : ∀ i, i ≤ 5 → MulIn x y i 0 (mulG x y i) := by
  intro i
  induction i with
  | zero => intro _; exact MulIn.start x y
  | succ i ih => intro hi; exact (rowG_in hx hy (by omega) (ih (by omega)) 5 (by omega)).next (by omega)
def feMul (x y : Nat → BitVec 64) : Nat → BitVec 64 := feCarry (outAll (mulG x y 5))
theorem mul_law {x y : Nat → BitVec 64} (hx : Ok x) (hy : Ok y) : Ok (feMul x y) ∧ val (feMul x y) % pP = (val x * val y) % pP := feMul_ok (mulG_in hx hy 5 (by decide))
def outK (f : Nat → BitVec 64) (k : Nat) : Nat → BitVec 64 := if k < 5 then outTo f k else outAll f
theorem outK_lt (f : Nat → BitVec 64) (k : Nat) (h : k < 5) : outK f k = outTo f k := if_pos h
theorem outK_five (f : Nat → BitVec 64) : outK f 5 = outAll f := if_neg (by decide)
theorem outK_zero (f : Nat → BitVec 64) : outK f 0 = fun _ => 0 := outTo_zero f
theorem zero_ok : Ok (fun _ => 0) := fun _ _ => Nat.zero_le _
theorem zero_val : val (fun _ => 0) = 0 := by decide
theorem val_lt255 (x : Nat → BitVec 64) : val x % pP < 2 ^ 255 := by
  have := Nat.mod_lt (val x) pP_pos
  have := pP_eq
  omega
theorem byt_zero : byt 0 = fun _ => 0 := by funext i; unfold byt; rw [Nat.zero_div]; rfl
theorem small_cells (n : BitVec 64) : cU 5 (lst 0 [n &&& 2251799813685247#64, n >>> 51]) = cU 5 (limb51 n.toNat) := cU_congr fun i hi => by
  have hn := n.isLt
  apply BitVec.eq_of_toNat_eq
  rw [limb51_toNat]
  obtain rfl | rfl | rfl | rfl | rfl : i = 0 ∨ i = 1 ∨ i = 2 ∨ i = 3 ∨ i = 4 := by omega
  · show (n &&& 2251799813685247#64).toNat = _
    rw [and_mask]; omega
  · show (n >>> 51).toNat = _
    rw [shr51]; omega
  · show (0 : BitVec 64).toNat = _
    rw [Nat.div_eq_of_lt (Nat.lt_of_lt_of_le hn (by decide))]; rfl
  · show (0 : BitVec 64).toNat = _
    rw [Nat.div_eq_of_lt (Nat.lt_of_lt_of_le hn (by decide))]; rfl
  · show (0 : BitVec 64).toNat = _
    rw [Nat.div_eq_of_lt (Nat.lt_of_lt_of_le hn (by decide))]; rfl
theorem val_lt256 (x : Nat → BitVec 64) : val x % pP < 2 ^ (8 * 32) := Nat.lt_trans (val_lt255 x) (by decide)
theorem eqR_byt {m n : Nat} (hm : m < 2 ^ (8 * 32)) (hn : n < 2 ^ (8 * 32)) : eqR 32 (byt m) (byt n) = decide (m = n) := by
  by_cases h : m = n
  · rw [decide_eq_true h]; exact eqR_true fun i _ => by rw [h]
  · rw [decide_eq_false h]
    cases hb : eqR 32 (byt m) (byt n) with
    | false => rfl
    | true => exact absurd (byt_inj hm hn (eqR_iff.1 hb)) h
theorem odd_byt (n : Nat) : decide (byt n 0 &&& 1#8 = 1#8) = decide (n % 2 = 1) := by
  apply decide_eq_decide.2
  have h : (byt n 0 &&& 1#8).toNat = n % 2 := by
    rw [BitVec.toNat_and, byt_toNat]
    show (n / 2 ^ (8 * 0) % 2 ^ 8) &&& (2 ^ 1 - 1) = n % 2
    rw [Nat.and_two_pow_sub_one_eq_mod, Nat.mul_zero, Nat.pow_zero, Nat.div_one]; omega
  constructor
  · intro h1; rw [← h, h1]; rfl
  · intro h1; apply BitVec.eq_of_toNat_eq; rw [h, h1]; rfl
theorem clear_top (b : BitVec 8) : (b &&& ~~~128#8).toNat = b.toNat % 128 := by
  rw [show (~~~128#8 : BitVec 8) = 127#8 from rfl, BitVec.toNat_and]
  exact Nat.and_two_pow_sub_one_eq_mod _ 7
theorem top_nat (n b W : Nat) (h : n < W) : (n + b * W) % (128 * W) = n + b % 128 * W := by
  have h1 : n + b * W = n + b % 128 * W + 128 * W * (b / 128) := by
    conv => lhs; rw [← Nat.div_add_mod b 128]
    rw [Nat.add_mul, Nat.mul_right_comm 128 W]; omega
  rw [h1, Nat.add_mul_mod_self_left]
  apply Nat.mod_eq_of_lt
  have h2 : b % 128 * W ≤ 127 * W := Nat.mul_le_mul_right W (by omega)
  omega
theorem natB_clear (f : Nat → BitVec 8) : natB (upd f 31 (f 31 &&& ~~~128#8)) 32 = natB f 32 % 2 ^ 255 := by
  have h1 : natB (upd f 31 (f 31 &&& ~~~128#8)) 32 = natB (upd f 31 (f 31 &&& ~~~128#8)) 31 + (upd f 31 (f 31 &&& ~~~128#8) 31).toNat * 2 ^ (8 * 31) := rfl
  have h2 : natB f 32 = natB f 31 + (f 31).toNat * 2 ^ (8 * 31) := rfl
  have h3 : natB (upd f 31 (f 31 &&& ~~~128#8)) 31 = natB f 31 := natB_congr fun i hi => upd_ne _ _ (by omega)
  rw [h1, h3, upd_self, clear_top, h2]
  exact (top_nat _ _ _ (natB_lt f 31)).symm
theorem canon_eqR (f : Nat → BitVec 8) : eqR 32 (byt (val (limb51 (natB (upd f 31 (f 31 &&& ~~~128#8)) 32)) % pP)) (upd f 31 (f 31 &&& ~~~128#8)) = decide (natB f 32 % 2 ^ 255 < pP) := by
  have hg := natB_clear f
  generalize upd f 31 (f 31 &&& ~~~128#8) = h at hg ⊢
  have hl : natB f 32 % 2 ^ 255 < 2 ^ 255 := Nat.mod_lt _ (by decide)
  rw [limb51_val, hg, Nat.mod_mod]
  have hb : ∀ i, i < 32 → h i = byt (natB f 32 % 2 ^ 255) i := fun i hi => by rw [← hg, byt_natB h 32 i hi]
  have he : eqR 32 (byt (natB f 32 % 2 ^ 255 % pP)) h = eqR 32 (byt (natB f 32 % 2 ^ 255 % pP)) (byt (natB f 32 % 2 ^ 255)) := by
    rw [Bool.eq_iff_iff, eqR_iff, eqR_iff]
    exact ⟨fun q i hi => (q i hi).trans (hb i hi), fun q i hi => (q i hi).trans (hb i hi).symm⟩
  generalize natB f 32 % 2 ^ 255 = T at hl he ⊢
  rw [he, eqR_byt (Nat.lt_of_le_of_lt (Nat.mod_le _ _) (Nat.lt_trans hl (by decide))) (Nat.lt_trans hl (by decide))]
  apply decide_eq_decide.2
  constructor
  · intro h1; rw [← h1]; exact Nat.mod_lt _ pP_pos
  · exact Nat.mod_eq_of_lt
variable {P : Program} {Q : Exit → Act → World → Prop} {a : Act} {w w0 : World} {n : Nat} {E : Nat → Option Value} {L : List Blk} {ops : Array Oper} {rest : List Oper}
variable {dst : Option Nat} {ty : TypeId} {pos : String} {af : Array Edge} {g : Option (Nat × Bool)}
theorem cells_cut {m p s : Nat} {f : Nat → Value} (h : p + s ≤ m) : List.take s (List.drop p (cells m f)) = cells s (fun i => f (p + i)) := by
  apply List.ext_getElem
  · simp [cells]; omega
  · intro i h1 h2
    simp [cells]
theorem r_indexE {t el : TypeId} {x y : Operand} {m len i s : Nat} {k : IntKind} {f : Nat → Value} {d : TypeDesc} (hS : Slots a n E) (hx : ev E x = some (.agg (cells m f).toArray)) (hy : ev E y = some (.int k (i : Int))) (hT : P.underlying t = some (.array len el))
    (hs : (P.info? el).map (·.size) = some s) (he : P.underlying el = some d) (hd : aggB d = true) (hi : i < len) (hv : s * i + s ≤ m) : Run P a ⟨dst, .index t x y, ty, pos, af, g⟩ w (.agg (cells s (fun q => f (s * i + q))).toArray) := by
  have hv' : i * s + s ≤ m := by rw [Nat.mul_comm]; exact hv
  have := cells_cut (f := f) hv'
  rw [Nat.mul_comm s i]
  simp [Run, execOp, hS.eval hx, hS.eval hy, Instr.index, run_underlying hT, asIntOf, hi, run_sizeOf hs, part, run_isAgg he, hd, this]
end Go.Sym
namespace Go.Sym
open Go
end Go.Sym
namespace Go.Sym
open Go
end Go.Sym
namespace Go.Sym
open Go
end Go.Sym
namespace Go.Sym
open Go
def pd (k : Nat) : Nat := 2 ^ (16 * k)
end Go.Sym
namespace Go.Sym
open Go
end Go.Sym
namespace Go.Sym
open Go
def Tw (x : Nat → BitVec 64) (n : Nat) : Prop := Ok x ∧ n < pP ∧ val x % pP = n
theorem Tw.ok {x : Nat → BitVec 64} {n : Nat} (h : Tw x n) : Ok x := h.1
theorem Tw.eq {x : Nat → BitVec 64} {n : Nat} (h : Tw x n) : val x % pP = n := h.2.2
theorem Tw.read (f : Nat → BitVec 8) : Tw (limb51 (natB f 32)) (natB f 32 % 2 ^ 255 % pP) := ⟨limb51_ok _, Nat.mod_lt _ pP_pos, by rw [limb51_val]⟩
theorem small_lt (n : BitVec 64) : n.toNat < pP := Nat.lt_trans n.isLt (by decide +kernel)
theorem Tw.small (n : BitVec 64) : Tw (limb51 n.toNat) n.toNat := ⟨limb51_ok _, small_lt n, by rw [limb51_val, Nat.mod_eq_of_lt (Nat.lt_of_lt_of_le n.isLt (by decide)), Nat.mod_eq_of_lt (small_lt n)]⟩
theorem Tw.zero : Tw (fun _ => 0) 0 := ⟨zero_ok, pP_pos, by rw [zero_val]; rfl⟩
theorem Tw.add {x y : Nat → BitVec 64} {m n : Nat} (hx : Tw x m) (hy : Tw y n) : Tw (feAdd x y) ((m + n) % pP) := by
  have h := feAdd_ok hx.1 hy.1
  exact ⟨h.1, Nat.mod_lt _ pP_pos, by rw [h.2, Nat.add_mod, hx.2.2, hy.2.2]⟩
theorem Tw.mul {x y : Nat → BitVec 64} {m n : Nat} (hx : Tw x m) (hy : Tw y n) : Tw (feMul x y) (m * n % pP) := by
  have h := mul_law hx.1 hy.1
  exact ⟨h.1, Nat.mod_lt _ pP_pos, by rw [h.2, Nat.mul_mod, hx.2.2, hy.2.2]⟩
theorem sub_twin (v m n p : Nat) (_hm : m < p) (hn : n < p) (hv : v < p) (h : (v + n) % p = m) : v = (m + p - n) % p := by
  rcases Nat.lt_or_ge (v + n) p with h1 | h1
  · rw [Nat.mod_eq_of_lt h1] at h
    rw [show m + p - n = v + p by omega, Nat.add_mod_right, Nat.mod_eq_of_lt hv]
  · rw [Nat.mod_eq_sub_mod h1, Nat.mod_eq_of_lt (by omega)] at h
    rw [show m + p - n = v by omega, Nat.mod_eq_of_lt hv]
theorem Tw.sub {x y : Nat → BitVec 64} {m n : Nat} (hx : Tw x m) (hy : Tw y n) : Tw (feSub x y) ((m + pP - n) % pP) := by
  have h := feSub_ok hx.1 hy.1
  refine ⟨h.1, Nat.mod_lt _ pP_pos, sub_twin _ _ _ _ hx.2.1 hy.2.1 (Nat.mod_lt _ pP_pos) ?_⟩
  have h2 := h.2
  rw [Nat.add_mod, hy.2.2, hx.2.2] at h2
  exact h2
theorem Tw.neg {x : Nat → BitVec 64} {n : Nat} (hx : Tw x n) : Tw (feSub (fun _ => 0) x) ((0 + pP - n) % pP) := Tw.zero.sub hx
end Go.Sym
namespace Go.Sym
def pm (m : Nat) : Nat → Nat → Nat → Nat
  | 0, _, _ => 1 % m
  | f + 1, b, e => if e % 2 = 1 then pm m f (b * b % m) (e / 2) * b % m else pm m f (b * b % m) (e / 2)
theorem pm_eq (m : Nat) : ∀ (f b e : Nat), e < 2 ^ f → pm m f b e = b ^ e % m
  | 0, b, e, h => by
    have : e = 0 := by simpa using h
    rw [this]; rfl
  | f + 1, b, e, h => by
    have ih := pm_eq m f (b * b % m) (e / 2) (by rw [Nat.pow_succ] at h; omega)
    have e1 : (b * b % m) ^ (e / 2) % m = b ^ (2 * (e / 2)) % m := by
      rw [← Nat.pow_mod, show b * b = b ^ 2 by rw [Nat.pow_two], Nat.pow_mul]
    unfold pm
    rw [ih, e1]
    split
    · rename_i h1
      rw [Nat.mod_mul_mod, ← Nat.pow_succ, show (2 * (e / 2)).succ = e by omega]
    · rw [show 2 * (e / 2) = e by omega]
end Go.Sym
namespace Go.Sym
end Go.Sym
namespace Go.Sym
open Go
def powG (x : Nat → BitVec 64) (e : Nat → BitVec 8) : Nat → Nat → BitVec 64
  | 0 => limb51 (1#64).toNat
  | j + 1 => if e ((255 - j) / 8) >>> ((255 - j) % 8) &&& 1#8 = 1#8 then feMul (feMul (powG x e j) (powG x e j)) x else feMul (powG x e j) (powG x e j)
theorem powG_one {x : Nat → BitVec 64} {e : Nat → BitVec 8} {j : Nat} (h : e ((255 - j) / 8) >>> ((255 - j) % 8) &&& 1#8 = 1#8) : powG x e (j + 1) = feMul (feMul (powG x e j) (powG x e j)) x := if_pos h
theorem powG_none {x : Nat → BitVec 64} {e : Nat → BitVec 8} {j : Nat} (h : ¬ e ((255 - j) / 8) >>> ((255 - j) % 8) &&& 1#8 = 1#8) : powG x e (j + 1) = feMul (powG x e j) (powG x e j) := if_neg h
theorem byt_bit (n i : Nat) : byt n (i / 8) >>> (i % 8) &&& 1#8 = BitVec.ofNat 8 (n / 2 ^ i % 2) := by
  apply BitVec.eq_of_toNat_eq
  rw [BitVec.toNat_and, BitVec.toNat_ushiftRight, byt_toNat, Nat.shiftRight_eq_div_pow, show (1#8 : BitVec 8).toNat = 2 ^ 1 - 1 from rfl, Nat.and_two_pow_sub_one_eq_mod, BitVec.toNat_ofNat]
  have h1 : n / 2 ^ i = n / 2 ^ (8 * (i / 8)) / 2 ^ (i % 8) := by
    rw [Nat.div_div_eq_div_mul, ← Nat.pow_add, Nat.div_add_mod]
  rw [h1]
  generalize n / 2 ^ (8 * (i / 8)) = q
  have hs : i % 8 < 8 := Nat.mod_lt _ (by decide)
  generalize i % 8 = s at hs
  have h2 : q % 2 ^ 8 / 2 ^ s % 2 ^ 1 = q / 2 ^ s % 2 := by
    have e : 2 ^ 8 = 2 ^ s * 2 ^ (8 - s) := by rw [← Nat.pow_add]; congr 1; omega
    rw [e, Nat.mod_mul_right_div_self, Nat.mod_mod_of_dvd]
    exact ⟨2 ^ (8 - s - 1), by rw [← Nat.pow_add]; congr 1; omega⟩
  rw [h2]
  omega
theorem bit_is (e : Nat → BitVec 8) (i : Nat) (hi : i < 256) : (e (i / 8) >>> (i % 8) &&& 1#8 = 1#8) ↔ natB e 32 / 2 ^ i % 2 = 1 := by
  rw [← byt_natB e 32 (i / 8) (by omega), byt_bit]
  have : natB e 32 / 2 ^ i % 2 < 2 := Nat.mod_lt _ (by decide)
  constructor
  · intro h
    have := congrArg BitVec.toNat h
    rw [BitVec.toNat_ofNat] at this
    simp only [BitVec.toNat_ofNat] at this
    omega
  · intro h; rw [h]
def np (n E j : Nat) : Nat := n ^ (E / 2 ^ (256 - j)) % pP
theorem np_zero {n E : Nat} (hE : E < 2 ^ 256) : np n E 0 = 1 := by
  unfold np
  rw [Nat.sub_zero, Nat.div_eq_of_lt hE, Nat.pow_zero]
  decide +kernel
theorem div_bit (E i : Nat) : E / 2 ^ i = 2 * (E / 2 ^ (i + 1)) + E / 2 ^ i % 2 := by
  rw [Nat.pow_succ, ← Nat.div_div_eq_div_mul]
  omega
theorem np_one {n E j : Nat} (hj : j ≤ 255) (h : E / 2 ^ (255 - j) % 2 = 1) : np n E j * np n E j % pP * n % pP = np n E (j + 1) := by
  unfold np
  have e := div_bit E (255 - j)
  rw [h, show 255 - j + 1 = 256 - j by omega] at e
  rw [show 256 - (j + 1) = 255 - j by omega, e]
  generalize E / 2 ^ (256 - j) = b
  rw [Nat.pow_succ, Nat.two_mul, Nat.pow_add, ← Nat.mul_mod, Nat.mod_mul_mod]
theorem np_none {n E j : Nat} (hj : j ≤ 255) (h : ¬ E / 2 ^ (255 - j) % 2 = 1) : np n E j * np n E j % pP = np n E (j + 1) := by
  unfold np
  have e := div_bit E (255 - j)
  rw [show E / 2 ^ (255 - j) % 2 = 0 by omega, show 255 - j + 1 = 256 - j by omega] at e
  rw [show 256 - (j + 1) = 255 - j by omega, e]
  generalize E / 2 ^ (256 - j) = b
  rw [Nat.add_zero, Nat.two_mul, Nat.pow_add, ← Nat.mul_mod]
theorem np_all (n E : Nat) : np n E 256 = n ^ E % pP := by
  unfold np
  rw [Nat.sub_self, Nat.pow_zero, Nat.div_one]
theorem Tw.pows {x : Nat → BitVec 64} {n : Nat} (e : Nat → BitVec 8) (h : Tw x n) : ∀ j, j ≤ 256 → Tw (powG x e j) (np n (natB e 32) j)
  | 0, _ => by rw [np_zero (natB_lt e 32)]; exact Tw.small 1#64
  | j + 1, hj => by
    have ih := Tw.pows e h j (by omega)
    by_cases hb : e ((255 - j) / 8) >>> ((255 - j) % 8) &&& 1#8 = 1#8
    · rw [powG_one hb, ← np_one (by omega) ((bit_is e _ (by omega)).1 hb)]
      exact (ih.mul ih).mul h
    · rw [powG_none hb, ← np_none (by omega) (fun q => hb ((bit_is e _ (by omega)).2 q))]
      exact ih.mul ih
def pw (n E : Nat) : Nat := n ^ E % pP
theorem pw_all (n E : Nat) : np n E 256 = pw n E := np_all n E
theorem Tw.pow {x : Nat → BitVec 64} {n : Nat} (e : Nat → BitVec 8) (h : Tw x n) : Tw (powG x e 256) (pw n (natB e 32)) := by
  have := h.pows e 256 (by decide)
  rwa [pw_all] at this
theorem Tw.powE {x : Nat → BitVec 64} {n E : Nat} {e : Nat → BitVec 8} (h : Tw x n) (hE : natB e 32 = E) : Tw (powG x e 256) (pw n E) := hE ▸ h.pow e
attribute [irreducible] pw np
def expo (l h : BitVec 8) : Nat → BitVec 8 := upd (upd (fun _ => 255#8) 0 l) 31 h
def eI : Nat := pP - 2
def eS : Nat := (pP + 3) / 8
def eQ : Nat := (pP - 1) / 4
theorem expo_I : natB (expo 235#8 127#8) 32 = eI := by decide +kernel
theorem expo_S : natB (expo 254#8 15#8) 32 = eS := by decide +kernel
theorem expo_Q : natB (expo 251#8 31#8) 32 = eQ := by decide +kernel
theorem eI_lt : eI < 2 ^ 256 := by decide +kernel
theorem eQ_lt : eQ < 2 ^ 256 := by decide +kernel
attribute [irreducible] eI eS eQ
def invX (x : Nat → BitVec 64) : Nat → BitVec 64 := powG x (expo 235#8 127#8) 256
abbrev r0X (x : Nat → BitVec 64) : Nat → BitVec 64 := powG x (expo 254#8 15#8) 256
abbrev iX : Nat → BitVec 64 := powG (limb51 (2#64).toNat) (expo 251#8 31#8) 256
def r1X (x : Nat → BitVec 64) : Nat → BitVec 64 := if val (feMul (r0X x) (r0X x)) % pP = val x % pP then r0X x else feMul (r0X x) iX
def okX (x : Nat → BitVec 64) : Bool := decide (val (feMul (r1X x) (r1X x)) % pP = val x % pP)
def outX (x : Nat → BitVec 64) : Nat → BitVec 64 := if val (feMul (r1X x) (r1X x)) % pP = val x % pP then (if val (r1X x) % pP % 2 = 1 then feSub (fun _ => 0) (r1X x) else r1X x) else fun _ => 0
theorem r1X_yes {x : Nat → BitVec 64} (h : val (feMul (r0X x) (r0X x)) % pP = val x % pP) : r1X x = r0X x := if_pos h
theorem r1X_no {x : Nat → BitVec 64} (h : ¬ val (feMul (r0X x) (r0X x)) % pP = val x % pP) : r1X x = feMul (r0X x) iX := if_neg h
theorem outX_none {x : Nat → BitVec 64} (h : ¬ val (feMul (r1X x) (r1X x)) % pP = val x % pP) : outX x = (fun _ => 0) ∧ okX x = false := ⟨if_neg h, decide_eq_false h⟩
theorem outX_odd {x : Nat → BitVec 64} (h : val (feMul (r1X x) (r1X x)) % pP = val x % pP) (h2 : val (r1X x) % pP % 2 = 1) : outX x = feSub (fun _ => 0) (r1X x) ∧ okX x = true := ⟨by unfold outX; rw [if_pos h, if_pos h2], decide_eq_true h⟩
theorem outX_even {x : Nat → BitVec 64} (h : val (feMul (r1X x) (r1X x)) % pP = val x % pP) (h2 : ¬ val (r1X x) % pP % 2 = 1) : outX x = r1X x ∧ okX x = true := ⟨by unfold outX; rw [if_pos h, if_neg h2], decide_eq_true h⟩
def ratioX (u v : Nat → BitVec 64) : (Nat → BitVec 64) × Bool := if val v % pP = 0 then (fun _ => 0, decide (val u % pP = 0)) else (outX (feMul u (invX v)), okX (feMul u (invX v)))
def invN (n : Nat) : Nat := pw n eI
abbrev r0N (n : Nat) : Nat := pw n eS
def iN : Nat := pw (2#64).toNat eQ
theorem iN_eq : iN = pw (2#64).toNat eQ := rfl
def r1N (n : Nat) : Nat := if r0N n * r0N n % pP = n then r0N n else r0N n * iN % pP
def okN (n : Nat) : Bool := decide (r1N n * r1N n % pP = n)
def outN (n : Nat) : Nat := if r1N n * r1N n % pP = n then (if r1N n % 2 = 1 then (0 + pP - r1N n) % pP else r1N n) else 0
theorem outN_none {n : Nat} (h : ¬ r1N n * r1N n % pP = n) : outN n = 0 ∧ okN n = false := ⟨if_neg h, decide_eq_false h⟩
theorem outN_odd {n : Nat} (h : r1N n * r1N n % pP = n) (h2 : r1N n % 2 = 1) : outN n = (0 + pP - r1N n) % pP ∧ okN n = true := ⟨by unfold outN; rw [if_pos h, if_pos h2], decide_eq_true h⟩
theorem outN_even {n : Nat} (h : r1N n * r1N n % pP = n) (h2 : ¬ r1N n % 2 = 1) : outN n = r1N n ∧ okN n = true := ⟨by unfold outN; rw [if_pos h, if_neg h2], decide_eq_true h⟩
def ratioN (u v : Nat) : Nat × Bool := if v = 0 then (0, decide (u = 0)) else (outN (u * invN v % pP), okN (u * invN v % pP))
theorem Tw.inv {x : Nat → BitVec 64} {n : Nat} (h : Tw x n) : Tw (invX x) (invN n) := h.powE expo_I
theorem Tw.r0 {x : Nat → BitVec 64} {n : Nat} (h : Tw x n) : Tw (r0X x) (r0N n) := h.powE expo_S
theorem Tw.im : Tw iX iN := by rw [iN_eq]; exact (Tw.small 2#64).powE expo_Q
theorem Tw.same {x y : Nat → BitVec 64} {m n : Nat} (hx : Tw x m) (hy : Tw y n) : (val x % pP = val y % pP) = (m = n) := by rw [hx.2.2, hy.2.2]
theorem Tw.r1 {x : Nat → BitVec 64} {n : Nat} (h : Tw x n) : Tw (r1X x) (r1N n) := by
  unfold r1X r1N
  simp only [Tw.same (h.r0.mul h.r0) h]
  by_cases hc : r0N n * r0N n % pP = n
  · rw [if_pos hc, if_pos hc]; exact h.r0
  · rw [if_neg hc, if_neg hc]; exact h.r0.mul Tw.im
theorem Tw.okk {x : Nat → BitVec 64} {n : Nat} (h : Tw x n) : okX x = okN n := by
  unfold okX okN
  simp only [Tw.same (h.r1.mul h.r1) h]
theorem Tw.out {x : Nat → BitVec 64} {n : Nat} (h : Tw x n) : Tw (outX x) (outN n) := by
  unfold outX outN
  simp only [Tw.same (h.r1.mul h.r1) h, h.r1.2.2]
  by_cases hc : r1N n * r1N n % pP = n
  · rw [if_pos hc, if_pos hc]
    by_cases hd : r1N n % 2 = 1
    · rw [if_pos hd, if_pos hd]; exact h.r1.neg
    · rw [if_neg hd, if_neg hd]; exact h.r1
  · rw [if_neg hc, if_neg hc]; exact Tw.zero
theorem Tw.ratio {x y : Nat → BitVec 64} {m n : Nat} (hx : Tw x m) (hy : Tw y n) : Tw (ratioX x y).1 (ratioN m n).1 ∧ (ratioX x y).2 = (ratioN m n).2 := by
  unfold ratioX ratioN
  simp only [hy.2.2, hx.2.2]
  by_cases hc : n = 0
  · rw [if_pos hc, if_pos hc]; exact ⟨Tw.zero, rfl⟩
  · rw [if_neg hc, if_neg hc]; exact ⟨(hx.mul hy.inv).out, (hx.mul hy.inv).okk⟩
theorem ratioX_yes {u v : Nat → BitVec 64} (h : val v % pP = 0) : ratioX u v = (fun _ => 0, decide (val u % pP = 0)) := if_pos h
theorem ratioX_no {u v : Nat → BitVec 64} (h : ¬ val v % pP = 0) : ratioX u v = (outX (feMul u (invX v)), okX (feMul u (invX v))) := if_neg h
theorem ratioN_yes {u v : Nat} (h : v = 0) : ratioN u v = (0, decide (u = 0)) := if_pos h
theorem ratioN_no {u v : Nat} (h : ¬ v = 0) : ratioN u v = (outN (u * invN v % pP), okN (u * invN v % pP)) := if_neg h
theorem Tw.self {x : Nat → BitVec 64} (h : Ok x) : Tw x (val x % pP) := ⟨h, Nat.mod_lt _ pP_pos, rfl⟩
def bitZ (f : Nat → BitVec 8) (i : Int) : Nat := if 0 ≤ i ∧ i < 256 then natB f 32 / 2 ^ i.toNat % 2 else 0
theorem bitZ_out {f : Nat → BitVec 8} {i : Int} (h : i < 0 ∨ 256 ≤ i) : bitZ f i = 0 := if_neg (by omega)
theorem bitZ_at (f : Nat → BitVec 8) (p : Nat) (h : p < 256) : bitZ f (p : Int) = natB f 32 / 2 ^ p % 2 := by
  unfold bitZ
  rw [if_pos (by omega), Int.toNat_natCast]
end Go.Sym
namespace Go.Sym
open Go
theorem pw_def (n E : Nat) : pw n E = n ^ E % pP := by unfold pw; rfl
theorem pw_pm {n E v : Nat} (hE : E < 2 ^ 256) (h : pm pP 256 n E = v) : pw n E = v := by rw [pw_def, ← pm_eq pP 256 n E hE, h]
def hP : Nat := (pP - 1) / 2
end Go.Sym
