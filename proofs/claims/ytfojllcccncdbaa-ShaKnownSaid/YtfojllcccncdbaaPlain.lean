/-
  The plain law of the step of SHA-512: what each function comes to, and what the laws of chapter 7 say of it. No program is in sight here.
-/
import Derived.Test.YtfojllcccncdbaaSymMem
namespace Go.Sym
open Go

def rotl (x : BitVec 64) (k : Int) : BitVec 64 := x <<< (BitVec.ofInt 64 k &&& 63#64).toNat ||| x >>> (64#64 - (BitVec.ofInt 64 k &&& 63#64)).toNat
def rotr (x : BitVec 64) (n : Int) : BitVec 64 := rotl x (-(n.tmod 64))
def ch (x y z : BitVec 64) : BitVec 64 := (x &&& y) ^^^ (~~~x &&& z)
def maj (x y z : BitVec 64) : BitVec 64 := (x &&& y) ^^^ (x &&& z) ^^^ (y &&& z)
def small (x : BitVec 64) (a b down : Nat) : BitVec 64 := rotr x a ^^^ rotr x b ^^^ x >>> down
def great (x : BitVec 64) (a b c : Nat) : BitVec 64 := rotr x a ^^^ rotr x b ^^^ rotr x c
/-- The sixteen numbers, k bytes having been taken. -/
def wordsTo (f : Nat → BitVec 8) : Nat → Nat → BitVec 64
  | 0 => fun _ => 0
  | k + 1 => upd (wordsTo f k) (k / 8) (wordsTo f k (k / 8) <<< 8 ||| (f k).setWidth 64)
theorem tmod64 (n : Int) : -64 < n.tmod 64 ∧ n.tmod 64 < 64 := by
  have h1 := Int.tmod_lt_of_pos n (show (0 : Int) < 64 by decide)
  have h2 : -64 < n.tmod 64 := by
    have h3 := Int.neg_tmod n 64
    have h4 := Int.tmod_lt_of_pos (-n) (show (0 : Int) < 64 by decide)
    omega
  exact ⟨h2, h1⟩

/-! ### the schedule -/

/-- The schedule, t numbers having been laid. -/
def schTo (m : Nat → BitVec 64) : Nat → Nat → BitVec 64
  | 0 => fun _ => 0
  | t + 1 => upd (schTo m t) t (if t < 16 then m t else small (schTo m t (t - 2)) 19 61 6 + schTo m t (t - 7) + small (schTo m t (t - 15)) 1 8 7 + schTo m t (t - 16))
def sched (m : Nat → BitVec 64) (t : Nat) : BitVec 64 := schTo m (t + 1) t

theorem schTo_low (m : Nat → BitVec 64) (t : Nat) (h : t < 16) : schTo m (t + 1) = upd (schTo m t) t (m t) := by
  show upd _ _ _ = _
  rw [if_pos h]
theorem schTo_high (m : Nat → BitVec 64) (t : Nat) (h : 16 ≤ t) : schTo m (t + 1) = upd (schTo m t) t (small (schTo m t (t - 2)) 19 61 6 + schTo m t (t - 7) + small (schTo m t (t - 15)) 1 8 7 + schTo m t (t - 16)) := by
  show upd _ _ _ = _
  rw [if_neg (by omega)]
theorem schTo_zero (m : Nat → BitVec 64) : ∀ (t i : Nat), t ≤ i → schTo m t i = 0 := by
  intro t
  induction t with
  | zero => intro i _; rfl
  | succ t ih =>
    intro i hi
    show upd _ _ _ i = 0
    unfold upd
    rw [if_neg (by omega), ih i (by omega)]
theorem schTo_get (m : Nat → BitVec 64) : ∀ (t i : Nat), i < t → schTo m t i = sched m i := by
  intro t
  induction t with
  | zero => intro i h; omega
  | succ t ih =>
    intro i hi
    by_cases h : i = t
    · subst h; rfl
    · have : schTo m (t + 1) i = schTo m t i := by
        show upd _ _ _ i = _
        unfold upd
        rw [if_neg h]
      rw [this, ih i (by omega)]
theorem schTo_16 (m : Nat → BitVec 64) (i : Nat) : schTo m 16 i = if i < 16 then m i else 0 := by
  have key : ∀ t, t ≤ 16 → ∀ i, schTo m t i = if i < t then m i else 0 := by
    intro t
    induction t with
    | zero => intro _ i; rw [if_neg (by omega)]; rfl
    | succ t ih =>
      intro ht i
      rw [schTo_low m t (by omega)]
      unfold upd
      by_cases h : i = t
      · subst h; rw [if_pos rfl, if_pos (by omega)]
      · rw [if_neg h, ih (by omega) i]
        by_cases h2 : i < t
        · rw [if_pos h2, if_pos (by omega)]
        · rw [if_neg h2, if_neg (by omega)]
  exact key 16 (Nat.le_refl _) i
theorem sched_low (m : Nat → BitVec 64) (t : Nat) (h : t < 16) : sched m t = m t := by
  unfold sched
  rw [schTo_low m t h]
  unfold upd
  rw [if_pos rfl]
theorem sched_high (m : Nat → BitVec 64) (t : Nat) (h : 16 ≤ t) : sched m t = small (sched m (t - 2)) 19 61 6 + sched m (t - 7) + small (sched m (t - 15)) 1 8 7 + sched m (t - 16) := by
  have e : sched m t = schTo m (t + 1) t := rfl
  rw [e, schTo_high m t h]
  unfold upd
  rw [if_pos rfl, schTo_get m t _ (by omega), schTo_get m t _ (by omega), schTo_get m t _ (by omega), schTo_get m t _ (by omega)]
/-- A schedule that starts from sixteen numbers of another goes on as that one does. -/
theorem sched_shift (m : Nat → BitVec 64) (k : Nat) : ∀ t, sched (fun i => sched m (k + i)) t = sched m (k + t) := by
  intro t
  induction t using Nat.strongRecOn with
  | _ t ih =>
    by_cases h : t < 16
    · rw [sched_low _ t h]
    · rw [sched_high _ t (by omega), sched_high m (k + t) (by omega), ih _ (by omega), ih _ (by omega), ih _ (by omega), ih _ (by omega),
        show k + (t - 2) = k + t - 2 by omega, show k + (t - 7) = k + t - 7 by omega, show k + (t - 15) = k + t - 15 by omega, show k + (t - 16) = k + t - 16 by omega]
theorem schTo_congr {m n : Nat → BitVec 64} (h : ∀ i, i < 16 → m i = n i) : ∀ t, schTo m t = schTo n t := by
  intro t
  induction t with
  | zero => rfl
  | succ t ih =>
    by_cases ht : t < 16
    · rw [schTo_low m t ht, schTo_low n t ht, ih, h t ht]
    · rw [schTo_high m t (by omega), schTo_high n t (by omega), ih]

/-! ### the step -/

def rnd (x : Nat → BitVec 64) (k w : BitVec 64) : Nat → BitVec 64 :=
  lst 0 [(x 7 + great (x 4) 14 18 41 + ch (x 4) (x 5) (x 6) + k + w) + (great (x 0) 28 34 39 + maj (x 0) (x 1) (x 2)), x 0, x 1, x 2, x 3 + (x 7 + great (x 4) 14 18 41 + ch (x 4) (x 5) (x 6) + k + w), x 4, x 5, x 6]
def rounds (k w s : Nat → BitVec 64) : Nat → Nat → BitVec 64
  | 0 => s
  | t + 1 => rnd (rounds k w s t) (k t) (w t)
/-- What is added behind the rounds, j numbers having been taken. -/
def sumTo (x s : Nat → BitVec 64) : Nat → Nat → BitVec 64
  | 0 => x
  | j + 1 => upd (sumTo x s j) j (sumTo x s j j + s j)
theorem sumTo_get (x s : Nat → BitVec 64) : ∀ (j i : Nat), sumTo x s j i = if i < j then x i + s i else x i := by
  intro j
  induction j with
  | zero => intro i; rw [if_neg (by omega)]; rfl
  | succ j ih =>
    intro i
    show upd _ _ _ i = _
    unfold upd
    by_cases h : i = j
    · subst h; rw [if_pos rfl, if_pos (by omega), ih, if_neg (by omega)]
    · rw [if_neg h, ih]
      by_cases h2 : i < j
      · rw [if_pos h2, if_pos (by omega)]
      · rw [if_neg h2, if_neg (by omega)]
/-- The numbers of the rounds. -/
def rk : Nat → BitVec 64 := lst 0 [0x428a2f98d728ae22#64, 0x7137449123ef65cd#64, 0xb5c0fbcfec4d3b2f#64, 0xe9b5dba58189dbbc#64, 0x3956c25bf348b538#64, 0x59f111f1b605d019#64, 0x923f82a4af194f9b#64, 0xab1c5ed5da6d8118#64, 0xd807aa98a3030242#64, 0x12835b0145706fbe#64, 0x243185be4ee4b28c#64, 0x550c7dc3d5ffb4e2#64, 0x72be5d74f27b896f#64, 0x80deb1fe3b1696b1#64, 0x9bdc06a725c71235#64, 0xc19bf174cf692694#64, 0xe49b69c19ef14ad2#64, 0xefbe4786384f25e3#64, 0x0fc19dc68b8cd5b5#64, 0x240ca1cc77ac9c65#64, 0x2de92c6f592b0275#64, 0x4a7484aa6ea6e483#64, 0x5cb0a9dcbd41fbd4#64, 0x76f988da831153b5#64, 0x983e5152ee66dfab#64, 0xa831c66d2db43210#64, 0xb00327c898fb213f#64, 0xbf597fc7beef0ee4#64, 0xc6e00bf33da88fc2#64, 0xd5a79147930aa725#64, 0x06ca6351e003826f#64, 0x142929670a0e6e70#64, 0x27b70a8546d22ffc#64, 0x2e1b21385c26c926#64, 0x4d2c6dfc5ac42aed#64, 0x53380d139d95b3df#64, 0x650a73548baf63de#64, 0x766a0abb3c77b2a8#64, 0x81c2c92e47edaee6#64, 0x92722c851482353b#64, 0xa2bfe8a14cf10364#64, 0xa81a664bbc423001#64, 0xc24b8b70d0f89791#64, 0xc76c51a30654be30#64, 0xd192e819d6ef5218#64, 0xd69906245565a910#64, 0xf40e35855771202a#64, 0x106aa07032bbd1b8#64, 0x19a4c116b8d2d0c8#64, 0x1e376c085141ab53#64, 0x2748774cdf8eeb99#64, 0x34b0bcb5e19b48a8#64, 0x391c0cb3c5c95a63#64, 0x4ed8aa4ae3418acb#64, 0x5b9cca4f7763e373#64, 0x682e6ff3d6b2b8a3#64, 0x748f82ee5defb2fc#64, 0x78a5636f43172f60#64, 0x84c87814a1f0ab72#64, 0x8cc702081a6439ec#64, 0x90befffa23631e28#64, 0xa4506cebde82bde9#64, 0xbef9a3f7b2c67915#64, 0xc67178f2e372532b#64, 0xca273eceea26619c#64, 0xd186b8c721c0c207#64, 0xeada7dd6cde0eb1e#64, 0xf57d4f7fee6ed178#64, 0x06f067aa72176fba#64, 0x0a637dc5a2c898a6#64, 0x113f9804bef90dae#64, 0x1b710b35131c471b#64, 0x28db77f523047d84#64, 0x32caab7b40c72493#64, 0x3c9ebe0a15c9bebc#64, 0x431d67c49c100d4c#64, 0x4cc5d4becb3e42b6#64, 0x597f299cfc657e2a#64, 0x5fcb6fab3ad6faec#64, 0x6c44198c4a475817#64]
/-- The numbers that a sum begins with. -/
def iv : Nat → BitVec 64 := lst 0 [0x6a09e667f3bcc908#64, 0xbb67ae8584caa73b#64, 0x3c6ef372fe94f82b#64, 0xa54ff53a5f1d36f1#64, 0x510e527fade682d1#64, 0x9b05688c2b3e6c1f#64, 0x1f83d9abfb41bd6b#64, 0x5be0cd19137e2179#64]
def sstep (s m : Nat → BitVec 64) : Nat → BitVec 64 := sumTo (rounds rk (schTo m 80) s 80) s 8

/-! ### bit by bit -/

def chTo (x y z : BitVec 64) : Nat → BitVec 64
  | 0 => 0#64
  | k + 1 => chTo x y z k ||| (if x >>> k &&& 1#64 = 1#64 then y >>> k &&& 1#64 else z >>> k &&& 1#64) <<< k
def majTo (x y z : BitVec 64) : Nat → BitVec 64
  | 0 => 0#64
  | k + 1 => if 2 ≤ ((x >>> k &&& 1#64) + (y >>> k &&& 1#64) + (z >>> k &&& 1#64)).toNat then majTo x y z k ||| 1#64 <<< k else majTo x y z k
/-- The rotation as the document defines it. -/
def refRotr (x : BitVec 64) (n : Int) : BitVec 64 :=
  let k := BitVec.ofInt 64 ((n.tmod 64 + 64).tmod 64)
  if k = 0#64 then x else x >>> k.toNat ||| x <<< (64#64 - k).toNat
end Go.Sym
