/-
  A text that goes on behind a loaded state. No program is in sight here.
-/
import Derived.Test.YtfojllcccncdbaaSha6
namespace Go.Sym
open Go

theorem Mem.chain {w0 w w' : World} {X Y : List Blk} (h : Mem w0 w X) (g : Mem w w' Y) (hX : ∀ e ∈ X, w0.heap.size ≤ e.b) (hY : ∀ e ∈ Y, w.heap.size ≤ e.b) : Mem w0 w' Y := (h.growX g hY).dropRight hX
theorem mid_at (s : Nat → BitVec 64) (q : Nat) (w F : Nat → BitVec 8) (m : Nat) (x : BitVec 64) (hx : x = BitVec.ofNat 64 (128 * q + m)) (_h : m < 1000200) : cB (64 + 8 + (m - m / 128 * 128) + (200 - (64 + 8 + (m - m / 128 * 128)))) (cat (cat (cat (flatB (ovr s F (m / 128))) 64 (be x)) (64 + 8) (fun i => F (m / 128 * 128 + i))) (64 + 8 + (m - m / 128 * 128)) (fun _ => 0#8)) = cB 200 (midF ((⟨s, 128 * q, w⟩ : HS).puts F m)) := by
  rw [show 64 + 8 + (m - m / 128 * 128) + (200 - (64 + 8 + (m - m / 128 * 128))) = 200 by omega]
  refine cB_congr fun i hi => ?_
  have h1 := HS.puts_at s q w F m
  have hn := HS.puts_n ⟨s, 128 * q, w⟩ F m
  have hn' : ((⟨s, 128 * q, w⟩ : HS).puts F m).n = 128 * q + m := hn
  unfold midF cat
  rw [h1.1, hn', hx]
  by_cases a1 : i < 64
  · simp only [if_pos a1, if_pos (show i < 64 + 8 by omega), if_pos (show i < 64 + 8 + (m - m / 128 * 128) by omega)]
  · by_cases a2 : i < 72
    · simp only [if_neg a1, if_pos a2, if_pos (show i < 64 + 8 + (m - m / 128 * 128) by omega)]
    · by_cases a3 : i < 72 + m % 128
      · simp only [if_neg a1, if_neg a2, if_pos (show i < 72 + (128 * q + m) % 128 by omega), if_pos (show i < 64 + 8 + (m - m / 128 * 128) by omega), h1.2 _ (show i - 72 < m % 128 by omega)]
        rw [Nat.mul_comm]
      · simp only [if_neg a1, if_neg a2, if_neg (show ¬ i < 72 + (128 * q + m) % 128 by omega), if_neg (show ¬ i < 64 + 8 + (m - m / 128 * 128) by omega)]
theorem add_ofNat (x : BitVec 64) (m : Nat) : x + BitVec.ofNat 64 m = BitVec.ofNat 64 (128 * (x.toNat / 128) + (x.toNat % 128 + m)) := by
  apply BitVec.eq_of_toNat_eq
  rw [BitVec.toNat_add, BitVec.toNat_ofNat, BitVec.toNat_ofNat, show 128 * (x.toNat / 128) + (x.toNat % 128 + m) = x.toNat + m by omega]
  omega
theorem after_end (f g : Nat → BitVec 8) (m : Nat) (h : m < 1000000) :
    cB (64 + 8 + ((loadN f).toNat % 128 + m - ((loadN f).toNat % 128 + m) / 128 * 128) + (200 - (64 + 8 + ((loadN f).toNat % 128 + m - ((loadN f).toNat % 128 + m) / 128 * 128)))) (cat (cat (cat (flatB (ovr (loadS f) (cat (fun i => f (72 + i)) ((loadN f).toNat % 128) g) (((loadN f).toNat % 128 + m) / 128))) 64 (be (loadN f + BitVec.ofNat 64 m))) (64 + 8) (fun i => (cat (fun i => f (72 + i)) ((loadN f).toNat % 128) g) (((loadN f).toNat % 128 + m) / 128 * 128 + i))) (64 + 8 + ((loadN f).toNat % 128 + m - ((loadN f).toNat % 128 + m) / 128 * 128)) (fun _ => 0#8)) = cB 200 (midF ((loadH f).puts g m)) := by
  rw [mid_at (loadS f) ((loadN f).toNat / 128) (fun i => f (72 + i)) _ _ _ (add_ofNat _ _) (by omega)]
  have a := (HS.base (loadH f)).puts g m
  rw [HS.puts_cat] at a
  rw [a.mid]
  rfl
end Go.Sym
