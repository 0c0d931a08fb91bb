/-
  Numbers of eight bytes, what Load takes, texts in parts. No program is in sight here.
-/
import Derived.Test.YtfojllcccncdbaaSha2
namespace Go.Sym
open Go

def numTo (f : Nat → BitVec 8) : Nat → BitVec 64
  | 0 => 0#64
  | k + 1 => numTo f k <<< 8 ||| (f k).setWidth 64
theorem numTo_congr {f g : Nat → BitVec 8} : ∀ {k : Nat}, (∀ i, i < k → f i = g i) → numTo f k = numTo g k
  | 0, _ => rfl
  | k + 1, h => by
    show numTo f k <<< 8 ||| _ = numTo g k <<< 8 ||| _
    rw [numTo_congr (k := k) (fun i hi => h i (by omega)), h k (by omega)]
def num (f : Nat → BitVec 8) : BitVec 64 := numTo f 8
def loadN (f : Nat → BitVec 8) : BitVec 64 := num fun j => f (64 + j)
def loadS (f : Nat → BitVec 8) : Nat → BitVec 64 := fun i => num fun j => f (8 * i + j)
def loadH (f : Nat → BitVec 8) : HS := ⟨loadS f, (loadN f).toNat, fun i => f (72 + i)⟩
def mayLoad (m : Nat) (f : Nat → BitVec 8) : Prop := m = 200 ∧ (loadN f).toNat ≤ 1152921504606846976 ∧ ∀ i, 72 + (loadN f).toNat % 128 ≤ i → i < 200 → f i = 0#8
def fil8 {α : Type} (z : α) (g : Nat → α) (k : Nat) : Nat → α := fun i => if i < k then g i else z
theorem fil8_zero {α : Type} (z : α) (g : Nat → α) : fil8 z g 0 = fun _ => z := by funext i; exact if_neg (Nat.not_lt_zero i)
theorem fil8_step {α : Type} (z : α) (g : Nat → α) (k : Nat) : upd (fil8 z g k) k (g k) = fil8 z g (k + 1) := by
  funext i
  unfold upd fil8
  by_cases h : i = k
  · subst h; rw [if_pos rfl, if_pos (by omega)]
  · rw [if_neg h]
    by_cases h2 : i < k
    · rw [if_pos h2, if_pos (by omega)]
    · rw [if_neg h2, if_neg (by omega)]
theorem hC_fil8 (bg : Bool) (g : Nat → BitVec 64) (n : Nat) (w : Nat → BitVec 8) : hC bg (fil8 0#64 g 8) n w = hC bg g n w := hC_congr (fun _ hi => if_pos hi) (fun _ _ => rfl)
theorem puts_split (h : HS) (f : Nat → BitVec 8) (p n : Nat) : (h.puts f p).puts (fun i => f (p + i)) n = h.puts f (p + n) := by
  rw [HS.puts_cat]
  refine HS.puts_congr fun i hi => ?_
  unfold cat
  split
  · rfl
  · rename_i h; show f (p + (i - p)) = f i; rw [show p + (i - p) = i by omega]
/-- Many texts, one behind the other. -/
def HS.many (h : HS) (fs : Nat → Nat → BitVec 8) (ms : Nat → Nat) : Nat → HS
  | 0 => h
  | k + 1 => (HS.many h fs ms k).puts (fs k) (ms k)
def tot (ms : Nat → Nat) : Nat → Nat
  | 0 => 0
  | k + 1 => tot ms k + ms k
theorem HS.many_n (h : HS) (fs : Nat → Nat → BitVec 8) (ms : Nat → Nat) : ∀ k, (h.many fs ms k).n = h.n + tot ms k
  | 0 => rfl
  | k + 1 => by show ((h.many fs ms k).puts _ _).n = _; rw [HS.puts_n, HS.many_n h fs ms k, show tot ms (k + 1) = tot ms k + ms k from rfl]; omega
theorem HS.many_succ (h : HS) (fs : Nat → Nat → BitVec 8) (ms : Nat → Nat) (k : Nat) : h.many fs ms (k + 1) = (h.many fs ms k).puts (fs k) (ms k) := rfl
theorem rb_slc {v : Value} {w : World} {m l h : Nat} {F : Nat → Value} (hr : Rd w v m F) (hm : 0 < m) : rb (slc v l h) = rb v := by
  obtain ⟨cap, hv, _⟩ := hr.at hm
  rw [hv]
  unfold slc
  dsimp only
  split
  · rfl
  · show rb (.slice (some ((⟨rb v, ro v, none⟩ : Addr).add l)) _ _) = _
    rw [Addr.add_lit]
    rfl
theorem tot_le (ms : Nat → Nat) {j k : Nat} (h : j ≤ k) : tot ms j ≤ tot ms k := by
  induction k with
  | zero => obtain rfl : j = 0 := by omega
            exact Nat.le_refl _
  | succ k ih =>
    by_cases e : j = k + 1
    · rw [e]; exact Nat.le_refl _
    · have := ih (by omega); rw [show tot ms (k + 1) = tot ms k + ms k from rfl]; omega
end Go.Sym
