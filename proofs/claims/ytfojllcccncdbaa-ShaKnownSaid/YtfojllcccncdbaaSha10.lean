/-
  The step of SHA-512, so written that the kernel can run it; the sums of known texts. No program is in sight here.
-/
import Derived.Test.YtfojllcccncdbaaSha8
namespace Go.Sym
open Go

theorem rotr_at (x : BitVec 64) {n : Int} {k l : Nat} (h1 : (BitVec.ofInt 64 (-(n.tmod 64)) &&& 63#64).toNat = l) (h2 : (64#64 - (BitVec.ofInt 64 (-(n.tmod 64)) &&& 63#64)).toNat = k) : rotr x n = x <<< l ||| x >>> k := by
  unfold rotr rotl
  rw [h1, h2]
def rt (x : BitVec 64) (k l : Nat) : BitVec 64 := x <<< l ||| x >>> k
def sm1 (x : BitVec 64) : BitVec 64 := rt x 19 45 ^^^ rt x 61 3 ^^^ x >>> 6
def sm0 (x : BitVec 64) : BitVec 64 := rt x 1 63 ^^^ rt x 8 56 ^^^ x >>> 7
def gr1 (x : BitVec 64) : BitVec 64 := rt x 14 50 ^^^ rt x 18 46 ^^^ rt x 41 23
def gr0 (x : BitVec 64) : BitVec 64 := rt x 28 36 ^^^ rt x 34 30 ^^^ rt x 39 25
theorem sm1_eq (x : BitVec 64) : small x 19 61 6 = sm1 x := by
  unfold small sm1 rt
  rw [rotr_at x (k := 19) (l := 45) (by decide) (by decide), rotr_at x (k := 61) (l := 3) (by decide) (by decide)]
theorem sm0_eq (x : BitVec 64) : small x 1 8 7 = sm0 x := by
  unfold small sm0 rt
  rw [rotr_at x (k := 1) (l := 63) (by decide) (by decide), rotr_at x (k := 8) (l := 56) (by decide) (by decide)]
theorem gr1_eq (x : BitVec 64) : great x 14 18 41 = gr1 x := by
  unfold great gr1 rt
  rw [rotr_at x (k := 14) (l := 50) (by decide) (by decide), rotr_at x (k := 18) (l := 46) (by decide) (by decide), rotr_at x (k := 41) (l := 23) (by decide) (by decide)]
theorem gr0_eq (x : BitVec 64) : great x 28 34 39 = gr0 x := by
  unfold great gr0 rt
  rw [rotr_at x (k := 28) (l := 36) (by decide) (by decide), rotr_at x (k := 34) (l := 30) (by decide) (by decide), rotr_at x (k := 39) (l := 25) (by decide) (by decide)]
def frcN {α : Type} (k : BitVec 64 → α) : Nat → α
  | 0 => k 0#64
  | n + 1 => k (BitVec.ofNat 64 (n + 1))
def frc {α : Type} (x : BitVec 64) (k : BitVec 64 → α) : α := frcN k x.toNat
theorem frc_eq {α : Type} (x : BitVec 64) (k : BitVec 64 → α) : frc x k = k x := by
  unfold frc
  have h : ∀ n, frcN k n = k (BitVec.ofNat 64 n) := fun n => by cases n <;> rfl
  rw [h, BitVec.ofNat_toNat, BitVec.setWidth_eq]
def goS : List (BitVec 64) → (w0 w1 w2 w3 w4 w5 w6 w7 w8 w9 w10 w11 w12 w13 w14 w15 a b c d e f g h : BitVec 64) → List (BitVec 64)
  | [], _, _, _, _, _, _, _, _, _, _, _, _, _, _, _, _, a, b, c, d, e, f, g, h => [a, b, c, d, e, f, g, h]
  | k :: ks, w0, w1, w2, w3, w4, w5, w6, w7, w8, w9, w10, w11, w12, w13, w14, w15, a, b, c, d, e, f, g, h =>
    frc (sm1 w14 + w9 + sm0 w1 + w0) fun w16 => frc (h + gr1 e + ch e f g + k + w0) fun t1 => frc (t1 + (gr0 a + maj a b c)) fun a' => frc (d + t1) fun e' =>
      goS ks w1 w2 w3 w4 w5 w6 w7 w8 w9 w10 w11 w12 w13 w14 w15 w16 a' a b c e' e f g
theorem goS_eq (m s : Nat → BitVec 64) : ∀ (ks : List (BitVec 64)) (t : Nat), (∀ i, i < ks.length → ks[i]? = some (rk (t + i))) →
    goS ks (sched m (t + 0)) (sched m (t + 1)) (sched m (t + 2)) (sched m (t + 3)) (sched m (t + 4)) (sched m (t + 5)) (sched m (t + 6)) (sched m (t + 7)) (sched m (t + 8)) (sched m (t + 9)) (sched m (t + 10)) (sched m (t + 11)) (sched m (t + 12)) (sched m (t + 13)) (sched m (t + 14)) (sched m (t + 15)) (rounds rk (sched m) s t 0) (rounds rk (sched m) s t 1) (rounds rk (sched m) s t 2) (rounds rk (sched m) s t 3) (rounds rk (sched m) s t 4) (rounds rk (sched m) s t 5) (rounds rk (sched m) s t 6) (rounds rk (sched m) s t 7) = [rounds rk (sched m) s (t + ks.length) 0, rounds rk (sched m) s (t + ks.length) 1, rounds rk (sched m) s (t + ks.length) 2, rounds rk (sched m) s (t + ks.length) 3, rounds rk (sched m) s (t + ks.length) 4, rounds rk (sched m) s (t + ks.length) 5, rounds rk (sched m) s (t + ks.length) 6, rounds rk (sched m) s (t + ks.length) 7]
  | [], t, _ => rfl
  | k :: ks, t, hk => by
    have hk0 : k = rk t := by have := hk 0 (by simp); simpa using this
    have ih := goS_eq m s ks (t + 1) (fun i hi => by have := hk (i + 1) (by simp; omega); rw [show t + 1 + i = t + (i + 1) by omega, ← this]; rfl)
    have hw : sched m (t + 16) = sm1 (sched m (t + 14)) + sched m (t + 9) + sm0 (sched m (t + 1)) + sched m (t + 0) := by
      rw [sched_high m (t + 16) (by omega), sm1_eq, sm0_eq]; rfl
    rw [List.length_cons, show t + (ks.length + 1) = t + 1 + ks.length by omega, ← ih]
    rw [goS, frc_eq, frc_eq, frc_eq, frc_eq, ← hw, hk0]
    
    have hr : rounds rk (sched m) s (t + 1) = rnd (rounds rk (sched m) s t) (rk t) (sched m t) := rfl
    rw [hr]
    unfold rnd
    rw [gr1_eq, gr0_eq]
    
    have e : ∀ i, t + 1 + i = t + (i + 1) := fun i => by omega
    simp only [e]
    rfl

def rkL : List (BitVec 64) := [0x428a2f98d728ae22#64, 0x7137449123ef65cd#64, 0xb5c0fbcfec4d3b2f#64, 0xe9b5dba58189dbbc#64, 0x3956c25bf348b538#64, 0x59f111f1b605d019#64, 0x923f82a4af194f9b#64, 0xab1c5ed5da6d8118#64, 0xd807aa98a3030242#64, 0x12835b0145706fbe#64, 0x243185be4ee4b28c#64, 0x550c7dc3d5ffb4e2#64, 0x72be5d74f27b896f#64, 0x80deb1fe3b1696b1#64, 0x9bdc06a725c71235#64, 0xc19bf174cf692694#64, 0xe49b69c19ef14ad2#64, 0xefbe4786384f25e3#64, 0x0fc19dc68b8cd5b5#64, 0x240ca1cc77ac9c65#64, 0x2de92c6f592b0275#64, 0x4a7484aa6ea6e483#64, 0x5cb0a9dcbd41fbd4#64, 0x76f988da831153b5#64, 0x983e5152ee66dfab#64, 0xa831c66d2db43210#64, 0xb00327c898fb213f#64, 0xbf597fc7beef0ee4#64, 0xc6e00bf33da88fc2#64, 0xd5a79147930aa725#64, 0x06ca6351e003826f#64, 0x142929670a0e6e70#64, 0x27b70a8546d22ffc#64, 0x2e1b21385c26c926#64, 0x4d2c6dfc5ac42aed#64, 0x53380d139d95b3df#64, 0x650a73548baf63de#64, 0x766a0abb3c77b2a8#64, 0x81c2c92e47edaee6#64, 0x92722c851482353b#64, 0xa2bfe8a14cf10364#64, 0xa81a664bbc423001#64, 0xc24b8b70d0f89791#64, 0xc76c51a30654be30#64, 0xd192e819d6ef5218#64, 0xd69906245565a910#64, 0xf40e35855771202a#64, 0x106aa07032bbd1b8#64, 0x19a4c116b8d2d0c8#64, 0x1e376c085141ab53#64, 0x2748774cdf8eeb99#64, 0x34b0bcb5e19b48a8#64, 0x391c0cb3c5c95a63#64, 0x4ed8aa4ae3418acb#64, 0x5b9cca4f7763e373#64, 0x682e6ff3d6b2b8a3#64, 0x748f82ee5defb2fc#64, 0x78a5636f43172f60#64, 0x84c87814a1f0ab72#64, 0x8cc702081a6439ec#64, 0x90befffa23631e28#64, 0xa4506cebde82bde9#64, 0xbef9a3f7b2c67915#64, 0xc67178f2e372532b#64, 0xca273eceea26619c#64, 0xd186b8c721c0c207#64, 0xeada7dd6cde0eb1e#64, 0xf57d4f7fee6ed178#64, 0x06f067aa72176fba#64, 0x0a637dc5a2c898a6#64, 0x113f9804bef90dae#64, 0x1b710b35131c471b#64, 0x28db77f523047d84#64, 0x32caab7b40c72493#64, 0x3c9ebe0a15c9bebc#64, 0x431d67c49c100d4c#64, 0x4cc5d4becb3e42b6#64, 0x597f299cfc657e2a#64, 0x5fcb6fab3ad6faec#64, 0x6c44198c4a475817#64]
theorem rkL_at : ∀ i, i < 80 → rkL[i]? = some (rk (0 + i)) := by decide +kernel
theorem rounds_congr {k w w' s : Nat → BitVec 64} : ∀ {t : Nat}, (∀ i, i < t → w i = w' i) → rounds k w s t = rounds k w' s t
  | 0, _ => rfl
  | t + 1, h => by
    show rnd _ _ _ = rnd _ _ _
    rw [rounds_congr (t := t) (fun i hi => h i (by omega)), h t (by omega)]
theorem sstep_ev {s m : Nat → BitVec 64} (w0 w1 w2 w3 w4 w5 w6 w7 w8 w9 w10 w11 w12 w13 w14 w15 a b c d e f g h : BitVec 64) {out : List (BitVec 64)} (hw : ∀ i, i < 16 → m i = lst 0 [w0, w1, w2, w3, w4, w5, w6, w7, w8, w9, w10, w11, w12, w13, w14, w15] i) (hs : ∀ i, i < 8 → s i = lst 0 [a, b, c, d, e, f, g, h] i)
    (hr : List.zipWith (· + ·) (goS rkL w0 w1 w2 w3 w4 w5 w6 w7 w8 w9 w10 w11 w12 w13 w14 w15 a b c d e f g h) [a, b, c, d, e, f, g, h] = out) : ∀ i, i < 8 → sstep s m i = lst 0 out i := by
  have hg := goS_eq m s rkL 0 rkL_at
  have hm : ∀ i, i < 16 → sched m (0 + i) = lst 0 [w0, w1, w2, w3, w4, w5, w6, w7, w8, w9, w10, w11, w12, w13, w14, w15] i := fun i hi => by rw [Nat.zero_add, sched_low m i hi, hw i hi]
  have h0 : ∀ i, i < 8 → rounds rk (sched m) s 0 i = lst 0 [a, b, c, d, e, f, g, h] i := hs
  rw [hm 0 (by decide), hm 1 (by decide), hm 2 (by decide), hm 3 (by decide), hm 4 (by decide), hm 5 (by decide), hm 6 (by decide), hm 7 (by decide), hm 8 (by decide), hm 9 (by decide), hm 10 (by decide), hm 11 (by decide), hm 12 (by decide), hm 13 (by decide), hm 14 (by decide), hm 15 (by decide), h0 0 (by decide), h0 1 (by decide), h0 2 (by decide), h0 3 (by decide), h0 4 (by decide), h0 5 (by decide), h0 6 (by decide), h0 7 (by decide)] at hg
  have e : goS rkL w0 w1 w2 w3 w4 w5 w6 w7 w8 w9 w10 w11 w12 w13 w14 w15 a b c d e f g h = _ := hg
  rw [e] at hr
  have hl : 0 + rkL.length = 80 := rfl
  rw [hl] at hr
  have hq : rounds rk (schTo m 80) s 80 = rounds rk (sched m) s 80 := rounds_congr fun i hi => schTo_get m 80 i hi
  intro i hi
  unfold sstep
  rw [sumTo_get, if_pos hi, hq, ← hr, hs i hi]
  match i, hi with
  | 0, _ => rfl
  | 1, _ => rfl
  | 2, _ => rfl
  | 3, _ => rfl
  | 4, _ => rfl
  | 5, _ => rfl
  | 6, _ => rfl
  | 7, _ => rfl

def tx0 : Nat → BitVec 8 := lst 0 []
theorem tx0_w0 : ∀ i, i < 16 → wordsTo (fun i => closed tx0 0 0 (128 * 0 + i)) 128 i = lst 0 [0x8000000000000000#64, 0x0000000000000000#64, 0x0000000000000000#64, 0x0000000000000000#64, 0x0000000000000000#64, 0x0000000000000000#64, 0x0000000000000000#64, 0x0000000000000000#64, 0x0000000000000000#64, 0x0000000000000000#64, 0x0000000000000000#64, 0x0000000000000000#64, 0x0000000000000000#64, 0x0000000000000000#64, 0x0000000000000000#64, 0x0000000000000000#64] i := by
  intro i hi
  rw [wordsTo_at, if_pos (show i < 128 / 8 by omega)]
  revert i
  decide +kernel
theorem tx0_s0 : ∀ i, i < 8 → ovr iv (closed tx0 0 0) 1 i = lst 0 [0xcf83e1357eefb8bd#64, 0xf1542850d66d8007#64, 0xd620e4050b5715dc#64, 0x83f4a921d36ce9ce#64, 0x47d0d13c5d85f2b0#64, 0xff8318d2877eec2f#64, 0x63b931bd47417a81#64, 0xa538327af927da3e#64] i :=
  sstep_ev 0x8000000000000000#64 0x0000000000000000#64 0x0000000000000000#64 0x0000000000000000#64 0x0000000000000000#64 0x0000000000000000#64 0x0000000000000000#64 0x0000000000000000#64 0x0000000000000000#64 0x0000000000000000#64 0x0000000000000000#64 0x0000000000000000#64 0x0000000000000000#64 0x0000000000000000#64 0x0000000000000000#64 0x0000000000000000#64 0x6a09e667f3bcc908#64 0xbb67ae8584caa73b#64 0x3c6ef372fe94f82b#64 0xa54ff53a5f1d36f1#64 0x510e527fade682d1#64 0x9b05688c2b3e6c1f#64 0x1f83d9abfb41bd6b#64 0x5be0cd19137e2179#64 tx0_w0 (by decide +kernel) (by decide +kernel)

def tx1 : Nat → BitVec 8 := lst 0 [97#8, 98#8, 99#8]
theorem tx1_w0 : ∀ i, i < 16 → wordsTo (fun i => closed tx1 3 3 (128 * 0 + i)) 128 i = lst 0 [0x6162638000000000#64, 0x0000000000000000#64, 0x0000000000000000#64, 0x0000000000000000#64, 0x0000000000000000#64, 0x0000000000000000#64, 0x0000000000000000#64, 0x0000000000000000#64, 0x0000000000000000#64, 0x0000000000000000#64, 0x0000000000000000#64, 0x0000000000000000#64, 0x0000000000000000#64, 0x0000000000000000#64, 0x0000000000000000#64, 0x0000000000000018#64] i := by
  intro i hi
  rw [wordsTo_at, if_pos (show i < 128 / 8 by omega)]
  revert i
  decide +kernel
theorem tx1_s0 : ∀ i, i < 8 → ovr iv (closed tx1 3 3) 1 i = lst 0 [0xddaf35a193617aba#64, 0xcc417349ae204131#64, 0x12e6fa4e89a97ea2#64, 0x0a9eeee64b55d39a#64, 0x2192992a274fc1a8#64, 0x36ba3c23a3feebbd#64, 0x454d4423643ce80e#64, 0x2a9ac94fa54ca49f#64] i :=
  sstep_ev 0x6162638000000000#64 0x0000000000000000#64 0x0000000000000000#64 0x0000000000000000#64 0x0000000000000000#64 0x0000000000000000#64 0x0000000000000000#64 0x0000000000000000#64 0x0000000000000000#64 0x0000000000000000#64 0x0000000000000000#64 0x0000000000000000#64 0x0000000000000000#64 0x0000000000000000#64 0x0000000000000000#64 0x0000000000000018#64 0x6a09e667f3bcc908#64 0xbb67ae8584caa73b#64 0x3c6ef372fe94f82b#64 0xa54ff53a5f1d36f1#64 0x510e527fade682d1#64 0x9b05688c2b3e6c1f#64 0x1f83d9abfb41bd6b#64 0x5be0cd19137e2179#64 tx1_w0 (by decide +kernel) (by decide +kernel)

def tx2 : Nat → BitVec 8 := lst 0 [97#8, 98#8, 99#8, 100#8, 101#8, 102#8, 103#8, 104#8, 98#8, 99#8, 100#8, 101#8, 102#8, 103#8, 104#8, 105#8, 99#8, 100#8, 101#8, 102#8, 103#8, 104#8, 105#8, 106#8, 100#8, 101#8, 102#8, 103#8, 104#8, 105#8, 106#8, 107#8, 101#8, 102#8, 103#8, 104#8, 105#8, 106#8, 107#8, 108#8, 102#8, 103#8, 104#8, 105#8, 106#8, 107#8, 108#8, 109#8, 103#8, 104#8, 105#8, 106#8, 107#8, 108#8, 109#8, 110#8, 104#8, 105#8, 106#8, 107#8, 108#8, 109#8, 110#8, 111#8, 105#8, 106#8, 107#8, 108#8, 109#8, 110#8, 111#8, 112#8, 106#8, 107#8, 108#8, 109#8, 110#8, 111#8, 112#8, 113#8, 107#8, 108#8, 109#8, 110#8, 111#8, 112#8, 113#8, 114#8, 108#8, 109#8, 110#8, 111#8, 112#8, 113#8, 114#8, 115#8, 109#8, 110#8, 111#8, 112#8, 113#8, 114#8, 115#8, 116#8, 110#8, 111#8, 112#8, 113#8, 114#8, 115#8, 116#8, 117#8]
theorem tx2_w0 : ∀ i, i < 16 → wordsTo (fun i => closed tx2 112 112 (128 * 0 + i)) 128 i = lst 0 [0x6162636465666768#64, 0x6263646566676869#64, 0x636465666768696a#64, 0x6465666768696a6b#64, 0x65666768696a6b6c#64, 0x666768696a6b6c6d#64, 0x6768696a6b6c6d6e#64, 0x68696a6b6c6d6e6f#64, 0x696a6b6c6d6e6f70#64, 0x6a6b6c6d6e6f7071#64, 0x6b6c6d6e6f707172#64, 0x6c6d6e6f70717273#64, 0x6d6e6f7071727374#64, 0x6e6f707172737475#64, 0x8000000000000000#64, 0x0000000000000000#64] i := by
  intro i hi
  rw [wordsTo_at, if_pos (show i < 128 / 8 by omega)]
  revert i
  decide +kernel
theorem tx2_s0 : ∀ i, i < 8 → ovr iv (closed tx2 112 112) 1 i = lst 0 [0x4319017a2b706e69#64, 0xcd4b05938bae5e89#64, 0x0186bf199f30aa95#64, 0x6ef8b71d2f810585#64, 0xd787d6764b20bda2#64, 0xa260144709736920#64, 0x00ec057f37d14b8e#64, 0x06add5b50e671c72#64] i :=
  sstep_ev 0x6162636465666768#64 0x6263646566676869#64 0x636465666768696a#64 0x6465666768696a6b#64 0x65666768696a6b6c#64 0x666768696a6b6c6d#64 0x6768696a6b6c6d6e#64 0x68696a6b6c6d6e6f#64 0x696a6b6c6d6e6f70#64 0x6a6b6c6d6e6f7071#64 0x6b6c6d6e6f707172#64 0x6c6d6e6f70717273#64 0x6d6e6f7071727374#64 0x6e6f707172737475#64 0x8000000000000000#64 0x0000000000000000#64 0x6a09e667f3bcc908#64 0xbb67ae8584caa73b#64 0x3c6ef372fe94f82b#64 0xa54ff53a5f1d36f1#64 0x510e527fade682d1#64 0x9b05688c2b3e6c1f#64 0x1f83d9abfb41bd6b#64 0x5be0cd19137e2179#64 tx2_w0 (by decide +kernel) (by decide +kernel)
theorem tx2_w1 : ∀ i, i < 16 → wordsTo (fun i => closed tx2 112 112 (128 * 1 + i)) 128 i = lst 0 [0x0000000000000000#64, 0x0000000000000000#64, 0x0000000000000000#64, 0x0000000000000000#64, 0x0000000000000000#64, 0x0000000000000000#64, 0x0000000000000000#64, 0x0000000000000000#64, 0x0000000000000000#64, 0x0000000000000000#64, 0x0000000000000000#64, 0x0000000000000000#64, 0x0000000000000000#64, 0x0000000000000000#64, 0x0000000000000000#64, 0x0000000000000380#64] i := by
  intro i hi
  rw [wordsTo_at, if_pos (show i < 128 / 8 by omega)]
  revert i
  decide +kernel
theorem tx2_s1 : ∀ i, i < 8 → ovr iv (closed tx2 112 112) 2 i = lst 0 [0x8e959b75dae313da#64, 0x8cf4f72814fc143f#64, 0x8f7779c6eb9f7fa1#64, 0x7299aeadb6889018#64, 0x501d289e4900f7e4#64, 0x331b99dec4b5433a#64, 0xc7d329eeb6dd2654#64, 0x5e96e55b874be909#64] i :=
  sstep_ev 0x0000000000000000#64 0x0000000000000000#64 0x0000000000000000#64 0x0000000000000000#64 0x0000000000000000#64 0x0000000000000000#64 0x0000000000000000#64 0x0000000000000000#64 0x0000000000000000#64 0x0000000000000000#64 0x0000000000000000#64 0x0000000000000000#64 0x0000000000000000#64 0x0000000000000000#64 0x0000000000000000#64 0x0000000000000380#64 0x4319017a2b706e69#64 0xcd4b05938bae5e89#64 0x0186bf199f30aa95#64 0x6ef8b71d2f810585#64 0xd787d6764b20bda2#64 0xa260144709736920#64 0x00ec057f37d14b8e#64 0x06add5b50e671c72#64 tx2_w1 tx2_s0 (by decide +kernel)
end Go.Sym
