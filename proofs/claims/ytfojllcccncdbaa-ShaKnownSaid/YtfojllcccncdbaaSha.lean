/-
  Sums that go on: what a hash is, taken byte by byte, and block by block. No program is in sight here.
-/
import Derived.Test.YtfojllcccncdbaaPlain
namespace Go.Sym
open Go

theorem wordsTo_congr {f g : Nat → BitVec 8} : ∀ {k : Nat}, (∀ i, i < k → f i = g i) → wordsTo f k = wordsTo g k
  | 0, _ => rfl
  | k + 1, h => by
    show upd _ _ _ = upd _ _ _
    rw [wordsTo_congr (k := k) (fun i hi => h i (by omega)), h k (by omega)]
/-- The numbers behind k blocks. -/
def ovr (s : Nat → BitVec 64) (F : Nat → BitVec 8) : Nat → Nat → BitVec 64
  | 0 => s
  | k + 1 => sstep (ovr s F k) (wordsTo (fun i => F (128 * k + i)) 128)
theorem ovr_congr {s : Nat → BitVec 64} {F G : Nat → BitVec 8} : ∀ {k : Nat}, (∀ i, i < 128 * k → F i = G i) → ovr s F k = ovr s G k
  | 0, _ => rfl
  | k + 1, h => by
    show sstep _ _ = sstep _ _
    rw [ovr_congr (k := k) (fun i hi => h i (by omega)), wordsTo_congr (k := 128) (fun i hi => h (128 * k + i) (by omega))]

structure HS where
  s : Nat → BitVec 64
  n : Nat
  w : Nat → BitVec 8
def HS.put (h : HS) (c : BitVec 8) : HS :=
  if (h.n + 1) % 128 = 0 then ⟨sstep h.s (wordsTo (upd h.w (h.n % 128) c) 128), h.n + 1, upd h.w (h.n % 128) c⟩ else ⟨h.s, h.n + 1, upd h.w (h.n % 128) c⟩
def HS.puts (h : HS) (f : Nat → BitVec 8) : Nat → HS
  | 0 => h
  | k + 1 => (h.puts f k).put (f k)
theorem HS.put_full {h : HS} {c : BitVec 8} (hn : (h.n + 1) % 128 = 0) : h.put c = ⟨sstep h.s (wordsTo (upd h.w (h.n % 128) c) 128), h.n + 1, upd h.w (h.n % 128) c⟩ := if_pos hn
theorem HS.put_more {h : HS} {c : BitVec 8} (hn : ¬ (h.n + 1) % 128 = 0) : h.put c = ⟨h.s, h.n + 1, upd h.w (h.n % 128) c⟩ := if_neg hn
theorem HS.put_n (h : HS) (c : BitVec 8) : (h.put c).n = h.n + 1 := by unfold HS.put; split <;> rfl
theorem HS.puts_n (h : HS) (f : Nat → BitVec 8) : ∀ k, (h.puts f k).n = h.n + k
  | 0 => rfl
  | k + 1 => by show ((h.puts f k).put (f k)).n = _; rw [HS.put_n, HS.puts_n h f k]; omega
theorem HS.puts_congr {h : HS} {f g : Nat → BitVec 8} : ∀ {k : Nat}, (∀ i, i < k → f i = g i) → h.puts f k = h.puts g k
  | 0, _ => rfl
  | k + 1, e => by
    show (h.puts f k).put (f k) = (h.puts g k).put (g k)
    rw [HS.puts_congr (k := k) (fun i hi => e i (by omega)), e k (by omega)]
def cat {α : Type} (f : Nat → α) (m : Nat) (g : Nat → α) : Nat → α := fun i => if i < m then f i else g (i - m)
theorem cat_lo {α : Type} (f : Nat → α) {m i : Nat} (g : Nat → α) (h : i < m) : cat f m g i = f i := if_pos h
theorem cat_hi {α : Type} (f : Nat → α) (m : Nat) (g : Nat → α) (i : Nat) : cat f m g (m + i) = g i := by unfold cat; rw [if_neg (by omega), Nat.add_sub_cancel_left]
theorem HS.puts_cat (h : HS) (f g : Nat → BitVec 8) (m : Nat) : ∀ k, (h.puts f m).puts g k = h.puts (cat f m g) (m + k)
  | 0 => (HS.puts_congr fun _ hi => cat_lo f g hi).symm
  | k + 1 => by
    show ((h.puts f m).puts g k).put (g k) = (h.puts (cat f m g) (m + k)).put (cat f m g (m + k))
    rw [HS.puts_cat h f g m k, cat_hi]
/-- Two states from which the same comes. -/
def HS.alike (h g : HS) : Prop := h.s = g.s ∧ h.n = g.n ∧ ∀ i, i < h.n % 128 → h.w i = g.w i
theorem HS.alike.refl (h : HS) : h.alike h := ⟨rfl, rfl, fun _ _ => rfl⟩
theorem HS.alike.symm {h g : HS} (a : h.alike g) : g.alike h := ⟨a.1.symm, a.2.1.symm, fun i hi => (a.2.2 i (by rw [a.2.1]; exact hi)).symm⟩
theorem HS.alike.trans {h g k : HS} (a : h.alike g) (b : g.alike k) : h.alike k := ⟨a.1.trans b.1, a.2.1.trans b.2.1, fun i hi => (a.2.2 i hi).trans (b.2.2 i (by rw [← a.2.1]; exact hi))⟩
theorem HS.alike.put {h g : HS} (a : h.alike g) (c : BitVec 8) : (h.put c).alike (g.put c) := by
  obtain ⟨h1, h2, h3⟩ := a
  have hu : ∀ i, i ≤ h.n % 128 → upd h.w (h.n % 128) c i = upd g.w (h.n % 128) c i := fun i hi => by
    unfold upd
    by_cases e : i = h.n % 128
    · rw [if_pos e, if_pos e]
    · rw [if_neg e, if_neg e]; exact h3 i (by omega)
  unfold HS.put
  rw [← h2, ← h1]
  by_cases e : (h.n + 1) % 128 = 0
  · rw [if_pos e, if_pos e, wordsTo_congr (k := 128) (f := upd h.w (h.n % 128) c) (g := upd g.w (h.n % 128) c) (fun i hi => hu i (by omega))]
    exact ⟨rfl, rfl, fun i hi => by have : i < (h.n + 1) % 128 := hi; omega⟩
  · rw [if_neg e, if_neg e]
    exact ⟨rfl, rfl, fun i hi => by have : i < (h.n + 1) % 128 := hi; exact hu i (by omega)⟩
theorem HS.alike.puts {h g : HS} (a : h.alike g) (f : Nat → BitVec 8) : ∀ k, (h.puts f k).alike (g.puts f k)
  | 0 => a
  | k + 1 => (HS.alike.puts a f k).put (f k)

/-- From a start between blocks: what m bytes come to. -/
theorem HS.puts_at (s : Nat → BitVec 64) (q : Nat) (w : Nat → BitVec 8) (f : Nat → BitVec 8) : ∀ m, ((⟨s, 128 * q, w⟩ : HS).puts f m).s = ovr s f (m / 128) ∧ ∀ i, i < m % 128 → ((⟨s, 128 * q, w⟩ : HS).puts f m).w i = f (128 * (m / 128) + i)
  | 0 => ⟨rfl, fun i hi => by omega⟩
  | m + 1 => by
    obtain ⟨h1, h2⟩ := HS.puts_at s q w f m
    have hn := HS.puts_n ⟨s, 128 * q, w⟩ f m
    have hn2 : ((⟨s, 128 * q, w⟩ : HS).puts f m).n % 128 = m % 128 := by rw [hn]; show (128 * q + m) % 128 = _; omega
    show (((⟨s, 128 * q, w⟩ : HS).puts f m).put (f m)).s = _ ∧ ∀ i, i < (m + 1) % 128 → (((⟨s, 128 * q, w⟩ : HS).puts f m).put (f m)).w i = _
    have hu : ∀ i, i ≤ m % 128 → upd ((⟨s, 128 * q, w⟩ : HS).puts f m).w (m % 128) (f m) i = f (128 * (m / 128) + i) := fun i hi => by
      unfold upd
      by_cases e : i = m % 128
      · rw [if_pos e, e, Nat.div_add_mod]
      · rw [if_neg e]; exact h2 i (by omega)
    by_cases e : (m + 1) % 128 = 0
    · rw [HS.put_full (by omega), hn2]
      have e1 : (m + 1) / 128 = m / 128 + 1 := by omega
      refine ⟨?_, fun i hi => by omega⟩
      rw [e1]
      show sstep _ _ = sstep _ _
      rw [h1, wordsTo_congr (k := 128) (fun i hi => hu i (by omega))]
    · rw [HS.put_more (by omega), hn2]
      have e1 : (m + 1) / 128 = m / 128 := by omega
      rw [e1]
      exact ⟨h1, fun i hi => hu i (by omega)⟩
theorem HS.base (h : HS) : h.alike ((⟨h.s, 128 * (h.n / 128), h.w⟩ : HS).puts h.w (h.n % 128)) := by
  have h1 := HS.puts_at h.s (h.n / 128) h.w h.w (h.n % 128)
  have h2 := HS.puts_n ⟨h.s, 128 * (h.n / 128), h.w⟩ h.w (h.n % 128)
  have e0 : h.n % 128 / 128 = 0 := by omega
  rw [e0] at h1
  refine ⟨h1.1.symm, ?_, fun i hi => ?_⟩
  · rw [h2]; show h.n = 128 * (h.n / 128) + h.n % 128; omega
  · rw [h1.2 i (by omega)]; congr 1; omega

/-! ### the end of a sum -/
def be (x : BitVec 64) : Nat → BitVec 8 := fun i => (x >>> (56 - 8 * i)).setWidth 8
def flatB (s : Nat → BitVec 64) : Nat → BitVec 8 := fun i => be (s (i / 8)) (i % 8)
def zc (n : Nat) : Nat := (239 - n % 128) % 128
theorem zc_lt (n : Nat) : zc n < 128 := Nat.mod_lt _ (by decide)
theorem zc_end (n : Nat) : (n + 1 + zc n) % 128 = 112 := by unfold zc; omega
theorem zc_more {n k : Nat} (h : k < zc n) : ¬ (n + 1 + k) % 128 = 112 := by unfold zc at h; omega
def HS.sum1 (h : HS) : HS := (h.puts (fun _ => 128#8) 1).puts (fun _ => 0#8) (zc h.n)
def HS.sum (h : HS) : HS := (h.sum1.puts (be (BitVec.ofNat 64 h.n >>> 61)) 8).puts (be (BitVec.ofNat 64 h.n <<< 3)) 8
theorem HS.alike.sum {h g : HS} (a : h.alike g) : h.sum.s = g.sum.s := by
  unfold HS.sum HS.sum1
  rw [← a.2.1]
  exact (((((a.puts _ _).puts _ _).puts _ _).puts _ _)).1
/-- The bytes behind a text of m bytes: of the text's last block and of those that close it. -/
def closing (x y : BitVec 64) (z : Nat) : Nat → BitVec 8 := cat (cat (cat (fun _ => 128#8) 1 (fun _ => 0#8)) (1 + z) (be x)) (1 + z + 8) (be y)
theorem HS.sum_cat (h : HS) : h.sum = h.puts (closing (BitVec.ofNat 64 h.n >>> 61) (BitVec.ofNat 64 h.n <<< 3) (zc h.n)) (1 + zc h.n + 8 + 8) := by
  unfold HS.sum HS.sum1 closing
  rw [HS.puts_cat h (fun _ => 128#8) (fun _ => 0#8) 1 (zc h.n), HS.puts_cat h _ (be (BitVec.ofNat 64 h.n >>> 61)) (1 + zc h.n) 8, HS.puts_cat h _ (be (BitVec.ofNat 64 h.n <<< 3)) (1 + zc h.n + 8) 8]
def HS.zero : HS := ⟨iv, 0, fun _ => 0⟩
/-- A text of m bytes, closed. -/
def closed (f : Nat → BitVec 8) (m n : Nat) : Nat → BitVec 8 := cat f m (closing (BitVec.ofNat 64 n >>> 61) (BitVec.ofNat 64 n <<< 3) (zc n))
theorem HS.sum_at (s : Nat → BitVec 64) (q : Nat) (w f : Nat → BitVec 8) (m : Nat) :
    ((⟨s, 128 * q, w⟩ : HS).puts f m).sum.s = ovr s (closed f m (128 * q + m)) ((m + (1 + zc (128 * q + m) + 8 + 8)) / 128) := by
  have hn := HS.puts_n ⟨s, 128 * q, w⟩ f m
  have hn' : ((⟨s, 128 * q, w⟩ : HS).puts f m).n = 128 * q + m := hn
  rw [HS.sum_cat, HS.puts_cat, (HS.puts_at s q w _ _).1, hn']
  rfl
/-! ### where a sum stands -/
def midF (h : HS) : Nat → BitVec 8 := fun i => if i < 64 then flatB h.s i else if i < 72 then be (BitVec.ofNat 64 h.n) (i - 64) else if i < 72 + h.n % 128 then h.w (i - 72) else 0#8
theorem HS.alike.mid {h g : HS} (a : h.alike g) : midF h = midF g := by
  funext i
  unfold midF
  rw [a.1, ← a.2.1]
  split
  · rfl
  · split
    · rfl
    · split
      · exact a.2.2 _ (by omega)
      · rfl
end Go.Sym
