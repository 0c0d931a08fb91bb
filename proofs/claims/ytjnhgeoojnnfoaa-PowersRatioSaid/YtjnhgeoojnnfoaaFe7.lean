/-
  The plain law of the definition of chapter 9: sixteen digits of 16 bits, folded at 2^255. No program is in sight here.
-/
import Derived.Test.YtjnhgeoojnnfoaaFe5
import Derived.Test.YtjnhgeoojnnfoaaSymDigI
namespace Go.Sym
open Go

/-- What is above 2^255 goes down by 19. -/
def foldT (T : Nat) : Nat := T % 2 ^ 255 + 19 * (T / 2 ^ 255)
theorem foldT_mod (T : Nat) : foldT T % pP = T % pP := by
  have h : T = foldT T + pP * (T / 2 ^ 255) := by
    have h1 := Nat.div_add_mod T (2 ^ 255)
    have h2 := pP_eq
    unfold foldT
    generalize 2 ^ 255 = W at *
    subst h2
    generalize T / (pP + 19) = q at *
    generalize T % (pP + 19) = r at *
    rw [Nat.add_mul] at h1
    omega
  conv => rhs; rw [h]
  rw [Nat.add_mul_mod_self_left]
theorem foldT_small {T : Nat} (h : T < 2 ^ 255) : foldT T = T := by
  unfold foldT
  rw [Nat.mod_eq_of_lt h, Nat.div_eq_of_lt h]; rfl
def foldD (g : Nat → BitVec 64) : Nat → BitVec 64 := upd (upd g 0 (g 0 + 19#64 * (g 15).sshiftRight 15)) 15 (upd g 0 (g 0 + 19#64 * (g 15).sshiftRight 15) 15 &&& 32767#64)
def passD (f : Nat → BitVec 64) : Nat → Nat → BitVec 64
  | 0 => f
  | k + 1 => foldD (nrmTo (passD f k) 15)
theorem split_nat (s c W : Nat) (hs : s < W) : (s + c * W) % (32768 * W) = s + c % 32768 * W ∧ (s + c * W) / (32768 * W) = c / 32768 := by
  have h1 : s + c * W = s + c % 32768 * W + 32768 * W * (c / 32768) := by
    conv => lhs; rw [← Nat.div_add_mod c 32768]
    rw [Nat.add_mul, Nat.mul_right_comm 32768 W]; omega
  have h2 : c % 32768 * W ≤ 32767 * W := Nat.mul_le_mul_right W (by omega)
  have h3 : s + c % 32768 * W < 32768 * W := by omega
  constructor
  · rw [h1, Nat.add_mul_mod_self_left]; exact Nat.mod_eq_of_lt h3
  · rw [h1, Nat.add_mul_div_left _ _ (by omega), Nat.div_eq_of_lt h3, Nat.zero_add]
/-- Fifteen carries: the low digits are proper, the top one takes the rest. -/
theorem nrm15 {f : Nat → BitVec 64} {b : Int} {T : Nat} (hb : 65536 ≤ b ∧ b ≤ 1152921504606846976) (hf : ∀ i, -b ≤ (f i).toInt ∧ (f i).toInt ≤ b) (hs : sumI f 16 = (T : Int)) :
    (∀ i, i < 15 → 0 ≤ (nrmTo f 15 i).toInt ∧ (nrmTo f 15 i).toInt < 65536) ∧ (∀ i, 15 < i → nrmTo f 15 i = f i) ∧
    ∃ s c : Nat, s < 2 ^ 240 ∧ sumI (nrmTo f 15) 15 = (s : Int) ∧ (nrmTo f 15 15).toInt = (c : Int) ∧ T = s + c * 2 ^ 240 ∧ (c : Int) ≤ 2 * b := by
  obtain ⟨h1, h2, h3, h4⟩ := nrm_spec hb hf 15
  refine ⟨h1, h2, ?_⟩
  have e := h4 16 (by decide)
  have hsg := (carried_sign hb hf 15).2 (by rw [hs]; omega)
  have hs0 := sumI_nonneg h1
  obtain ⟨c, hc⟩ := Int.eq_ofNat_of_zero_le hsg
  obtain ⟨s, hs1⟩ := Int.eq_ofNat_of_zero_le hs0.1
  refine ⟨s, c, ?_, hs1, hc, ?_, ?_⟩
  · have := hs0.2; rw [hs1] at this; exact_mod_cast this
  · rw [hs] at e
    have e2 : sumI (nrmTo f 15) 15 + (nrmTo f 15 15).toInt * 2 ^ (16 * 15) = (T : Int) := e
    rw [hs1, hc] at e2
    exact_mod_cast e2.symm
  · rw [← hc]; exact h3.2
theorem toInt_and15 (x : BitVec 64) : (x &&& 32767#64).toInt = x.toInt % 32768 := toInt_and_low x 32767#64 15 (by decide) rfl
theorem toInt_sshr15 (x : BitVec 64) : (x.sshiftRight 15).toInt = x.toInt / 32768 := toInt_sshr x 15
theorem fold_nat (s c W V : Nat) (hV : V = 32768 * W) (hs : s < W) : (s + c * W) % V + 19 * ((s + c * W) / V) = s + c % 32768 * W + 19 * (c / 32768) := by
  subst hV
  rw [(split_nat s c W hs).1, (split_nat s c W hs).2]
theorem fold_int (s c q r W x : Int) : s + c * W + (x + 19 * q - x) * 2 ^ (16 * 0) + (r - c) * W = s + r * W + 19 * q := by
  rw [show (2 : Int) ^ (16 * 0) = 1 from rfl]
  grind
/-- A pass keeps the bound and folds the number. -/
theorem fold_spec {f : Nat → BitVec 64} {b : Int} {T : Nat} (hb : 131072 ≤ b ∧ b ≤ 1152921504606846976) (hf : ∀ i, -b ≤ (f i).toInt ∧ (f i).toInt ≤ b) (hs : sumI f 16 = (T : Int)) :
    (∀ i, -b ≤ (foldD (nrmTo f 15) i).toInt ∧ (foldD (nrmTo f 15) i).toInt ≤ b) ∧ sumI (foldD (nrmTo f 15)) 16 = (foldT T : Int) := by
  obtain ⟨h1, h2, s, c, hs1, hs2, hc, hT, hcb⟩ := nrm15 ⟨by omega, hb.2⟩ hf hs
  generalize nrmTo f 15 = g at *
  have hq : (g 15).toInt / 32768 = ((c / 32768 : Nat) : Int) := by rw [hc]; rfl
  have e19 : (19#64 : BitVec 64).toInt = 19 := rfl
  have hm : (19#64 * (g 15).sshiftRight 15).toInt = 19 * ((c / 32768 : Nat) : Int) := by
    rw [toInt_mul_in _ _ (by rw [toInt_sshr15, hq, e19]; omega), toInt_sshr15, hq, e19]
  have h0 := h1 0 (by decide)
  have ha : (g 0 + 19#64 * (g 15).sshiftRight 15).toInt = (g 0).toInt + 19 * ((c / 32768 : Nat) : Int) := by
    rw [toInt_add_in _ _ (by rw [hm]; omega), hm]
  have hn : (upd g 0 (g 0 + 19#64 * (g 15).sshiftRight 15) 15 &&& 32767#64).toInt = ((c % 32768 : Nat) : Int) := by
    rw [toInt_and15, upd_ne _ _ (by decide), hc]; rfl
  constructor
  · intro i
    unfold foldD
    by_cases h15 : i = 15
    · subst h15; rw [upd_self, hn]; omega
    · rw [upd_ne _ _ h15]
      by_cases hi0 : i = 0
      · subst hi0; rw [upd_self, ha]; omega
      · rw [upd_ne _ _ hi0]
        by_cases hlt : i < 15
        · have := h1 i hlt; omega
        · rw [h2 i (by omega)]; exact hf i
  · unfold foldD
    have e1 : ∀ k : Nat, sumI g (k + 1) = sumI g k + (g k).toInt * 2 ^ (16 * k) := fun _ => rfl
    rw [sumI_upd, if_pos (by decide), sumI_upd, if_pos (by decide), hn, ha, upd_ne _ _ (by decide), e1 15, hs2, hc]
    have hF : foldT T = s + c % 32768 * 2 ^ 240 + 19 * (c / 32768) := by
      unfold foldT
      rw [hT]
      exact fold_nat s c _ _ (by decide +kernel) hs1
    have eR : ((s + c % 32768 * 2 ^ 240 + 19 * (c / 32768) : Nat) : Int) = (s : Int) + ((c % 32768 : Nat) : Int) * ((2 ^ 240 : Nat) : Int) + 19 * ((c / 32768 : Nat) : Int) := by
      rw [Int.natCast_add, Int.natCast_add, Int.natCast_mul, Int.natCast_mul]; rfl
    have e15 : (2 : Int) ^ (16 * 15) = ((2 ^ 240 : Nat) : Int) := (Int.natCast_pow 2 240).symm
    rw [hF, eR, e15]
    exact fold_int _ _ _ _ _ _
def foldK (T : Nat) : Nat → Nat
  | 0 => T
  | k + 1 => foldT (foldK T k)
theorem pass_spec {f : Nat → BitVec 64} {b : Int} {T : Nat} (hb : 131072 ≤ b ∧ b ≤ 1152921504606846976) (hf : ∀ i, -b ≤ (f i).toInt ∧ (f i).toInt ≤ b) (hs : sumI f 16 = (T : Int)) :
    ∀ k, (∀ i, -b ≤ (passD f k i).toInt ∧ (passD f k i).toInt ≤ b) ∧ sumI (passD f k) 16 = (foldK T k : Int) := by
  intro k
  induction k with
  | zero => exact ⟨hf, hs⟩
  | succ k ih => exact fold_spec hb ih.1 ih.2
theorem foldT_lt {T : Nat} (h : T < 2 ^ 300) : foldT T < 2 ^ 255 + 2 ^ 50 := by
  unfold foldT
  have h1 : T / 2 ^ 255 < 2 ^ 45 := Nat.div_lt_of_lt_mul (Nat.lt_of_lt_of_eq h (by decide +kernel))
  have h2 : T % 2 ^ 255 < 2 ^ 255 := Nat.mod_lt _ (by decide)
  generalize 2 ^ 255 = W at *
  generalize T / W = q at *
  generalize T % W = r at *
  omega
theorem fold_low (T W : Nat) (h : T < W + 2 ^ 50) (hw : 19 + 2 ^ 50 < W) : T % W + 19 * (T / W) < W := by
  rcases Nat.lt_or_ge T W with h1 | h1
  · rw [Nat.mod_eq_of_lt h1, Nat.div_eq_of_lt h1]; exact h1
  · have e : T = (T - W) + W := by omega
    rw [e, Nat.add_mod_right, Nat.add_div_right _ (by omega), Nat.mod_eq_of_lt (by omega), Nat.div_eq_of_lt (by omega)]
    omega
theorem foldT_lt2 {T : Nat} (h : T < 2 ^ 255 + 2 ^ 50) : foldT T < 2 ^ 255 := fold_low T _ h (by decide)
theorem fold4 {T : Nat} (h : T < 2 ^ 300) : foldK T 4 < 2 ^ 255 ∧ foldK T 4 % pP = T % pP := by
  have h1 := foldT_lt h
  have h2 := foldT_lt2 h1
  have h3 : foldT (foldT (foldT T)) = foldT (foldT T) := foldT_small h2
  constructor
  · show foldT (foldT (foldT (foldT T))) < 2 ^ 255
    rw [h3, h3]; exact h2
  · show foldT (foldT (foldT (foldT T))) % pP = T % pP
    rw [foldT_mod, foldT_mod, foldT_mod, foldT_mod]
/-- The digits before p is compared. -/
theorem norm4 {f : Nat → BitVec 64} {b : Int} {T : Nat} (hb : 131072 ≤ b ∧ b ≤ 1152921504606846976) (hf : ∀ i, -b ≤ (f i).toInt ∧ (f i).toInt ≤ b) (hs : sumI f 16 = (T : Int)) (hT : T < 2 ^ 300) :
    ∀ i, i < 16 → nrmTo (passD f 4) 15 i = dig (foldK T 4) i := by
  obtain ⟨h1, h2⟩ := pass_spec hb hf hs 4
  exact carried_dig ⟨by omega, hb.2⟩ h1 15 _ h2 (Nat.lt_trans (fold4 hT).1 (by decide))
end Go.Sym
