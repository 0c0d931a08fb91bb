import Derived.Test.YtgmieahcpkcabaaGreatBn12
import Derived.Test.YtgmieahcpkcabaaGreatBn8
import Derived.Test.YtgmieahcpkcabaaGreatBn2
import Derived.Test.YtgmieahcpkcabaaGreatBn4
import Derived.Test.YtgmieahcpkcabaaGreatBn6
import Derived.Test.YtgmieahcpkcabaaGreatBn9
import Derived.Test.YtgmieahcpkcabaaGreatBn11
import Derived.Test.YtgmieahcpkcabaaGreatBn3
namespace Go.Ev
open Go Go.Sym Go.RowKit
set_option linter.unusedSectionVars false
variable [Vl]
variable {P : Program} {bs : Nm} {w w' : World} {h : Hp}
noncomputable def rdB (h : Hp) (v : V) : Option (List Nat) := match contents h 1 v with
  | some l => bytesL l
  | none => none
theorem rdB_ok (hR : HR w bs h) {v : V} {u : Value} {bl : List Nat} (hv : VR bs v u) (hb : rdB h v = some bl) : Rd w u bl.length (fun i => B (fnL bl i)) ∧ (∀ b ∈ bl, b < 256) ∧ (0 < bl.length → ∃ id off len cap k, v = .c (.sl id off len cap) ∧ bs.b id = some k ∧ rb u = k ∧ (h.get id).isSome = true) := by
  unfold rdB at hb
  split at hb
  case h_2 => cases hb
  rename_i l hc
  refine ⟨?_, bytesL_lt hb, ?_⟩
  all_goals
    unfold contents at hc
    split at hc
  · cases hc
    simp [bytesL] at hb
    subst hb
    have hu : u = .slice none 0 0 := hv
    subst hu
    exact ⟨none, 0, rfl, Nat.le_refl _, (fun _ => rfl), fun x e => nomatch e⟩
  · cases hc
    simp [bytesL] at hb
    subst hb
    obtain ⟨b, off, c, rfl⟩ := hv
    exact ⟨some ⟨b, off, none⟩, c, rfl, Nat.zero_le _, (fun e => nomatch e), fun x e i hi => by simp at hi⟩
  · rename_i id off len cap
    obtain ⟨b, hg, hc⟩ := Option.bind_eq_some_iff.1 hc
    obtain ⟨hle, rfl⟩ := bcond hc
    have hle := ble_le hle
    obtain ⟨q, c, hq, h1, _, _, rfl⟩ := hv
    obtain ⟨vs, h2, h3⟩ := hR.cells hg hq (len * 1) off hle
    have hvs := bytesL_vs hb h2
    have hlen : bl.length = len := by
      have := h2.len
      rw [rd_len, hvs, List.length_map] at this
      omega
    refine ⟨some ⟨q, off, none⟩, c, by rw [hlen], by rw [hlen]; exact h1, (fun e => nomatch e), fun x e i hi => ?_⟩
    cases e
    refine ⟨rfl, ?_⟩
    refine h3 i _ ?_
    rw [hvs, map_cB]
    exact cells_get hi
  · cases hc
  · cases hc
    simp [bytesL] at hb
    subst hb
    intro hl; simp at hl
  · cases hc
    simp [bytesL] at hb
    subst hb
    intro hl; simp at hl
  · rename_i id off len cap
    obtain ⟨b, hg, hc⟩ := Option.bind_eq_some_iff.1 hc
    obtain ⟨q, c, hq, h1, _, _, rfl⟩ := hv
    exact fun _ => ⟨id, off, len, cap, q, rfl, hq, rfl, by rw [hg]; rfl⟩
  · cases hc
def fullB (b : Bl) (t n : Nat) : Bool := Nat.beq b.t t && Nat.beq b.len n && Nat.beq b.ks 0 && !b.ro && Nat.blt 0 n
theorem fullB_ok (hR : HR w bs h) {id k t n : Nat} {b : Bl} (hg : h.get id = some b) (hk : bs.b id = some k) (hf : fullB b t n = true) : ∃ cs : List Value, w.heap[k]? = some (.cells cs.toArray t (0, 0)) ∧ cs.length = n ∧ CsR bs (rd b.cs 0 n) cs ∧ n ≤ 16384 ∧ b.t = t ∧ b.len = n ∧ b.ks = 0 ∧ bs.c id = none := by
  simp only [fullB, Bool.and_eq_true, Bool.not_eq_true'] at hf
  obtain ⟨⟨⟨⟨h1, h2⟩, h3⟩, h4⟩, h5⟩ := hf
  have h1 := beq_eq h1
  have h2 := beq_eq h2
  have h3 := beq_eq h3
  have h5 := blt_lt h5
  obtain ⟨cs, c1, c2, c3, c4, c5⟩ := hR.at hg hk h4
  have hcn : bs.c id = none := by
    cases hc : bs.c id with
    | none => rfl
    | some c =>
      rw [hc, h3] at c4
      have : cs.length = c * 0 := c4
      omega
  rw [hcn] at c4
  have hl : cs.length = b.len := c4
  refine ⟨cs, by rw [← h1]; exact c1, by omega, ?_, by omega, h1, h2, h3, hcn⟩
  rw [← h2]
  exact c5.rd_all hl
theorem wrote_call (hR : HR w bs h) {f : FuncId} {args : Array Value} {id k t n : Nat} {b : Bl} {cs : List Value} {u : Value} {v : V} {l : List C} (hg : h.get id = some b) (hk : bs.b id = some k) (hf : fullB b t n = true) (hw : Wrote P f args w k t cs u) (hl : CsR bs l cs) (hn : l.length = n) (hv : VR bs v u) :
    CallR P f args w (After w bs h v (h.put id (some ⟨t, n, ofList l, false, 0⟩))) := by
  obtain ⟨cs0, c1, c2, c3, c4, c5, c6, c7, c8⟩ := fullB_ok hR hg hk hf
  refine .inr ⟨run_callFunc hw.ok _, hw.calls.mono ?_⟩
  rintro e w' ⟨rfl, hM⟩
  have hlen : cs.length = n := by rw [hl.len, hn]
  have hbr : BR w' bs id ⟨t, n, ofList l, false, 0⟩ k := by
    refine ⟨cs, (0, 0), hM.have_ _ (List.mem_singleton.2 rfl), fun _ => rfl, by show n ≤ cs.length; omega, c4, ?_, ?_⟩
    · rw [c8]; exact hlen
    · have := TR.of_list hl (by omega)
      rw [hn] at this
      exact this
  obtain ⟨h1, h2⟩ := hR.write hg hk (Upd.of_mem hM) hbr
  exact ⟨u, rfl, bs, h1, h2, hv⟩
end Go.Ev
namespace Go.Sym
open Go
def rotl (x : BitVec 64) (k : Int) : BitVec 64 := x <<< (BitVec.ofInt 64 k &&& 63#64).toNat ||| x >>> (64#64 - (BitVec.ofInt 64 k &&& 63#64)).toNat
def rotr (x : BitVec 64) (n : Int) : BitVec 64 := rotl x (-(n.tmod 64))
def ch (x y z : BitVec 64) : BitVec 64 := (x &&& y) ^^^ (~~~x &&& z)
def maj (x y z : BitVec 64) : BitVec 64 := (x &&& y) ^^^ (x &&& z) ^^^ (y &&& z)
def small (x : BitVec 64) (a b down : Nat) : BitVec 64 := rotr x a ^^^ rotr x b ^^^ x >>> down
def great (x : BitVec 64) (a b c : Nat) : BitVec 64 := rotr x a ^^^ rotr x b ^^^ rotr x c
def wordsTo (f : Nat → BitVec 8) : Nat → Nat → BitVec 64
  | 0 => fun _ => 0
  | k + 1 => upd (wordsTo f k) (k / 8) (wordsTo f k (k / 8) <<< 8 ||| (f k).setWidth 64)
theorem tmod64 (n : Int) : -64 < n.tmod 64 ∧ n.tmod 64 < 64 := by
  have h1 := Int.tmod_lt_of_pos n (show (0 : Int) < 64 by decide)
  have h2 : -64 < n.tmod 64 := by
    have h3 := Int.neg_tmod n 64
    have h4 := Int.tmod_lt_of_pos (-n) (show (0 : Int) < 64 by decide)
    omega
  exact ⟨h2, h1⟩
def schTo (m : Nat → BitVec 64) : Nat → Nat → BitVec 64
  | 0 => fun _ => 0
  | t + 1 => upd (schTo m t) t (if t < 16 then m t else small (schTo m t (t - 2)) 19 61 6 + schTo m t (t - 7) + small (schTo m t (t - 15)) 1 8 7 + schTo m t (t - 16))
def sched (m : Nat → BitVec 64) (t : Nat) : BitVec 64 := schTo m (t + 1) t
theorem schTo_low (m : Nat → BitVec 64) (t : Nat) (h : t < 16) : schTo m (t + 1) = upd (schTo m t) t (m t) := by
  show upd _ _ _ = _
  rw [if_pos h]
theorem schTo_high (m : Nat → BitVec 64) (t : Nat) (h : 16 ≤ t) : schTo m (t + 1) = upd (schTo m t) t (small (schTo m t (t - 2)) 19 61 6 + schTo m t (t - 7) + small (schTo m t (t - 15)) 1 8 7 + schTo m t (t - 16)) := by
  show upd _ _ _ = _
  rw [if_neg (by omega)]
theorem schTo_get (m : Nat → BitVec 64) : ∀ (t i : Nat), i < t → schTo m t i = sched m i := by
  intro t
  induction t with
  | zero => intro i h; omega
  | succ t ih =>
    intro i hi
    by_cases h : i = t
    · subst h; rfl
    · have : schTo m (t + 1) i = schTo m t i := by
        show upd _ _ _ i = _
        unfold upd
        rw [if_neg h]
      rw [this, ih i (by omega)]
theorem schTo_16 (m : Nat → BitVec 64) (i : Nat) : schTo m 16 i = if i < 16 then m i else 0 := by
  have key : ∀ t, t ≤ 16 → ∀ i, schTo m t i = if i < t then m i else 0 := by
    intro t
    induction t with
    | zero => intro _ i; rw [if_neg (by omega)]; rfl
    | succ t ih =>
      intro ht i
      rw [schTo_low m t (by omega)]
      unfold upd
      by_cases h : i = t
      · subst h; rw [if_pos rfl, if_pos (by omega)]
      · rw [if_neg h, ih (by omega) i]
        by_cases h2 : i < t
        · rw [if_pos h2, if_pos (by omega)]
        · rw [if_neg h2, if_neg (by omega)]
  exact key 16 (Nat.le_refl _) i
theorem sched_low (m : Nat → BitVec 64) (t : Nat) (h : t < 16) : sched m t = m t := by
  unfold sched
  rw [schTo_low m t h]
  unfold upd
  rw [if_pos rfl]
theorem sched_high (m : Nat → BitVec 64) (t : Nat) (h : 16 ≤ t) : sched m t = small (sched m (t - 2)) 19 61 6 + sched m (t - 7) + small (sched m (t - 15)) 1 8 7 + sched m (t - 16) := by
  have e : sched m t = schTo m (t + 1) t := rfl
  rw [e, schTo_high m t h]
  unfold upd
  rw [if_pos rfl, schTo_get m t _ (by omega), schTo_get m t _ (by omega), schTo_get m t _ (by omega), schTo_get m t _ (by omega)]
def rnd (x : Nat → BitVec 64) (k w : BitVec 64) : Nat → BitVec 64 :=
  lst 0 [(x 7 + great (x 4) 14 18 41 + ch (x 4) (x 5) (x 6) + k + w) + (great (x 0) 28 34 39 + maj (x 0) (x 1) (x 2)), x 0, x 1, x 2, x 3 + (x 7 + great (x 4) 14 18 41 + ch (x 4) (x 5) (x 6) + k + w), x 4, x 5, x 6]
def rounds (k w s : Nat → BitVec 64) : Nat → Nat → BitVec 64
  | 0 => s
  | t + 1 => rnd (rounds k w s t) (k t) (w t)
def sumTo (x s : Nat → BitVec 64) : Nat → Nat → BitVec 64
  | 0 => x
  | j + 1 => upd (sumTo x s j) j (sumTo x s j j + s j)
theorem sumTo_get (x s : Nat → BitVec 64) : ∀ (j i : Nat), sumTo x s j i = if i < j then x i + s i else x i := by
  intro j
  induction j with
  | zero => intro i; rw [if_neg (by omega)]; rfl
  | succ j ih =>
    intro i
    show upd _ _ _ i = _
    unfold upd
    by_cases h : i = j
    · subst h; rw [if_pos rfl, if_pos (by omega), ih, if_neg (by omega)]
    · rw [if_neg h, ih]
      by_cases h2 : i < j
      · rw [if_pos h2, if_pos (by omega)]
      · rw [if_neg h2, if_neg (by omega)]
def rk : Nat → BitVec 64 := lst 0 [0x428a2f98d728ae22#64, 0x7137449123ef65cd#64, 0xb5c0fbcfec4d3b2f#64, 0xe9b5dba58189dbbc#64, 0x3956c25bf348b538#64, 0x59f111f1b605d019#64, 0x923f82a4af194f9b#64, 0xab1c5ed5da6d8118#64, 0xd807aa98a3030242#64, 0x12835b0145706fbe#64, 0x243185be4ee4b28c#64, 0x550c7dc3d5ffb4e2#64, 0x72be5d74f27b896f#64, 0x80deb1fe3b1696b1#64, 0x9bdc06a725c71235#64, 0xc19bf174cf692694#64, 0xe49b69c19ef14ad2#64, 0xefbe4786384f25e3#64, 0x0fc19dc68b8cd5b5#64, 0x240ca1cc77ac9c65#64, 0x2de92c6f592b0275#64, 0x4a7484aa6ea6e483#64, 0x5cb0a9dcbd41fbd4#64, 0x76f988da831153b5#64, 0x983e5152ee66dfab#64, 0xa831c66d2db43210#64, 0xb00327c898fb213f#64, 0xbf597fc7beef0ee4#64, 0xc6e00bf33da88fc2#64, 0xd5a79147930aa725#64, 0x06ca6351e003826f#64, 0x142929670a0e6e70#64, 0x27b70a8546d22ffc#64, 0x2e1b21385c26c926#64, 0x4d2c6dfc5ac42aed#64, 0x53380d139d95b3df#64, 0x650a73548baf63de#64, 0x766a0abb3c77b2a8#64, 0x81c2c92e47edaee6#64, 0x92722c851482353b#64, 0xa2bfe8a14cf10364#64, 0xa81a664bbc423001#64, 0xc24b8b70d0f89791#64, 0xc76c51a30654be30#64, 0xd192e819d6ef5218#64, 0xd69906245565a910#64, 0xf40e35855771202a#64, 0x106aa07032bbd1b8#64, 0x19a4c116b8d2d0c8#64, 0x1e376c085141ab53#64, 0x2748774cdf8eeb99#64, 0x34b0bcb5e19b48a8#64, 0x391c0cb3c5c95a63#64, 0x4ed8aa4ae3418acb#64, 0x5b9cca4f7763e373#64, 0x682e6ff3d6b2b8a3#64, 0x748f82ee5defb2fc#64, 0x78a5636f43172f60#64, 0x84c87814a1f0ab72#64, 0x8cc702081a6439ec#64, 0x90befffa23631e28#64, 0xa4506cebde82bde9#64, 0xbef9a3f7b2c67915#64, 0xc67178f2e372532b#64, 0xca273eceea26619c#64, 0xd186b8c721c0c207#64, 0xeada7dd6cde0eb1e#64, 0xf57d4f7fee6ed178#64, 0x06f067aa72176fba#64, 0x0a637dc5a2c898a6#64, 0x113f9804bef90dae#64, 0x1b710b35131c471b#64, 0x28db77f523047d84#64, 0x32caab7b40c72493#64, 0x3c9ebe0a15c9bebc#64, 0x431d67c49c100d4c#64, 0x4cc5d4becb3e42b6#64, 0x597f299cfc657e2a#64, 0x5fcb6fab3ad6faec#64, 0x6c44198c4a475817#64]
def iv : Nat → BitVec 64 := lst 0 [0x6a09e667f3bcc908#64, 0xbb67ae8584caa73b#64, 0x3c6ef372fe94f82b#64, 0xa54ff53a5f1d36f1#64, 0x510e527fade682d1#64, 0x9b05688c2b3e6c1f#64, 0x1f83d9abfb41bd6b#64, 0x5be0cd19137e2179#64]
def sstep (s m : Nat → BitVec 64) : Nat → BitVec 64 := sumTo (rounds rk (schTo m 80) s 80) s 8
end Go.Sym
namespace Go.Sym
open Go
def ovr (s : Nat → BitVec 64) (F : Nat → BitVec 8) : Nat → Nat → BitVec 64
  | 0 => s
  | k + 1 => sstep (ovr s F k) (wordsTo (fun i => F (128 * k + i)) 128)
structure HS where
  s : Nat → BitVec 64
  n : Nat
  w : Nat → BitVec 8
def HS.put (h : HS) (c : BitVec 8) : HS :=
  if (h.n + 1) % 128 = 0 then ⟨sstep h.s (wordsTo (upd h.w (h.n % 128) c) 128), h.n + 1, upd h.w (h.n % 128) c⟩ else ⟨h.s, h.n + 1, upd h.w (h.n % 128) c⟩
def HS.puts (h : HS) (f : Nat → BitVec 8) : Nat → HS
  | 0 => h
  | k + 1 => (h.puts f k).put (f k)
theorem HS.put_full {h : HS} {c : BitVec 8} (hn : (h.n + 1) % 128 = 0) : h.put c = ⟨sstep h.s (wordsTo (upd h.w (h.n % 128) c) 128), h.n + 1, upd h.w (h.n % 128) c⟩ := if_pos hn
theorem HS.put_more {h : HS} {c : BitVec 8} (hn : ¬ (h.n + 1) % 128 = 0) : h.put c = ⟨h.s, h.n + 1, upd h.w (h.n % 128) c⟩ := if_neg hn
theorem HS.put_n (h : HS) (c : BitVec 8) : (h.put c).n = h.n + 1 := by unfold HS.put; split <;> rfl
theorem HS.puts_n (h : HS) (f : Nat → BitVec 8) : ∀ k, (h.puts f k).n = h.n + k
  | 0 => rfl
  | k + 1 => by show ((h.puts f k).put (f k)).n = _; rw [HS.put_n, HS.puts_n h f k]; omega
def be (x : BitVec 64) : Nat → BitVec 8 := fun i => (x >>> (56 - 8 * i)).setWidth 8
def flatB (s : Nat → BitVec 64) : Nat → BitVec 8 := fun i => be (s (i / 8)) (i % 8)
def zc (n : Nat) : Nat := (239 - n % 128) % 128
theorem zc_lt (n : Nat) : zc n < 128 := Nat.mod_lt _ (by decide)
theorem zc_end (n : Nat) : (n + 1 + zc n) % 128 = 112 := by unfold zc; omega
theorem zc_more {n k : Nat} (h : k < zc n) : ¬ (n + 1 + k) % 128 = 112 := by unfold zc at h; omega
def HS.sum1 (h : HS) : HS := (h.puts (fun _ => 128#8) 1).puts (fun _ => 0#8) (zc h.n)
def HS.sum (h : HS) : HS := (h.sum1.puts (be (BitVec.ofNat 64 h.n >>> 61)) 8).puts (be (BitVec.ofNat 64 h.n <<< 3)) 8
def HS.zero : HS := ⟨iv, 0, fun _ => 0⟩
end Go.Sym
namespace Go.Sym
open Go
def hC (bg : Bool) (s : Nat → BitVec 64) (n : Nat) (w : Nat → BitVec 8) : List Value := [.bool bg] ++ cU 8 s ++ ([N n] ++ cB 128 w)
section
variable (bg : Bool) (s : Nat → BitVec 64) (n : Nat) (w : Nat → BitVec 8)
theorem hC_len : (hC bg s n w).length = 138 := by simp [hC, cells_len]
theorem hC_bg : (hC bg s n w)[0]? = some (.bool bg) := rfl
theorem hC_n : (hC bg s n w)[9]? = some (N n) := rfl
theorem hC_split : hC bg s n w = [.bool bg] ++ cU 8 s ++ ([N n] ++ cB 128 w) := rfl
theorem hC_front : ([.bool bg] ++ cU 8 s ++ [N n] : List Value).length = 10 := rfl
theorem hC_back : hC bg s n w = ([.bool bg] ++ cU 8 s ++ [N n]) ++ cB 128 w := by unfold hC; simp
theorem hC_w {i : Nat} (h : i < 128) : (hC bg s n w)[10 + i]? = some (B (w i)) := by
  rw [hC_back, List.getElem?_append_right (by rw [hC_front]; omega), hC_front, Nat.add_sub_cancel_left]
  exact cells_get h
theorem hC_one : ∀ v ∈ hC bg s n w, v.oneCell' = true := fun v hv => by
  unfold hC at hv
  simp only [List.mem_append, List.mem_singleton] at hv
  rcases hv with (rfl | h) | rfl | h
  · rfl
  · exact cU_one v h
  · rfl
  · exact cB_one v h
theorem hC_set_n (m : Nat) : (hC bg s n w).set 9 (N m) = hC bg s m w := rfl
theorem hC_set_w {i : Nat} (c : BitVec 8) (h : i < 128) : (hC bg s n w).set (10 + i) (B c) = hC bg s n (upd w i c) := by
  rw [hC_back, hC_back, List.set_append_right _ _ (by rw [hC_front]; omega), hC_front, Nat.add_sub_cancel_left, cB_set]
theorem hC_splice_s (s' : Nat → BitVec 64) : splice (hC bg s n w) 1 (cU 8 s') = hC bg s' n w := by
  rw [hC_split, hC_split]
  exact splice_spec (cU 8 s') [.bool bg] (cU 8 s) ([N n] ++ cB 128 w) (by rw [cells_len, cells_len])
end
theorem hC_rd {w0 w : World} {L : List Blk} {b j m t : Nat} {bg : Bool} {s : Nat → BitVec 64} {n : Nat} {f : Nat → BitVec 8} (hM : Mem w0 w L) (hj : L[j]? = some ⟨b, t, hC bg s n f⟩) (hm : m ≤ 128) : Rd w (.slice (some ⟨b, 10, none⟩) m 128) m (fun i => B (f i)) :=
  Rd.of_mem hM hj hm (fun i hi => hC_w bg s n f (by omega))
theorem ne_one {b : Nat} {t : TypeId} {cs : List Value} {v : Value} {m : Nat} (h : 0 < m → rb v ≠ b) (hm : 0 < m) : ∀ e ∈ ([⟨b, t, cs⟩] : List Blk), e.b ≠ rb v := fun e he => by
  simp only [List.mem_singleton] at he
  subst he
  exact fun q => h hm q.symm
theorem snocB (j : Nat) (f : Nat → BitVec 8) : cB j f ++ [B (f j)] = cB (j + 1) f := cells_snoc (F := fun i => B (f i))
theorem snoc_be (j : Nat) (x : BitVec 64) : cB j (be x) ++ cells 1 (fun _ => B (BitVec.setWidth 8 (x >>> (56 - 8 * j)))) = cB (j + 1) (be x) := snocB j (be x)
theorem flat_at (s : Nat → BitVec 64) {k i : Nat} (h : i < 8) : flatB s (8 * k + i) = be (s k) i := by
  unfold flatB
  rw [show (8 * k + i) / 8 = k by omega, show (8 * k + i) % 8 = i by omega]
theorem catB (k : Nat) (s : Nat → BitVec 64) : cB (8 * k) (flatB s) ++ cB 8 (be (s k)) = cB (8 * (k + 1)) (flatB s) := by
  unfold cB
  rw [cells_append]
  refine cells_congr fun i hi => ?_
  split
  · rfl
  · rename_i h
    rw [← flat_at s (show i - 8 * k < 8 by omega), show 8 * k + (i - 8 * k) = i by omega]
def hH (bg : Bool) (h : HS) : List Value := hC bg h.s h.n h.w
theorem hH_n (bg : Bool) (h : HS) : (hH bg h)[9]? = some (N h.n) := rfl
theorem puts_one (h : HS) (c : BitVec 8) (k : Nat) : (h.puts (fun _ => c) k).puts (fun _ => c) 1 = h.puts (fun _ => c) (k + 1) := rfl
theorem nodup_at {L : List Blk} {i j : Nat} {e1 e2 : Blk} (h : (L.map (·.b)).Nodup) (hi : L[i]? = some e1) (hj : L[j]? = some e2) (hij : i ≠ j) : e1.b ≠ e2.b := fun e => by
  have h1 : (L.map (·.b))[i]? = some e1.b := by rw [List.getElem?_map, hi]; rfl
  have h2 : (L.map (·.b))[j]? = some e2.b := by rw [List.getElem?_map, hj]; rfl
  exact hij ((List.getElem?_inj (List.getElem?_eq_some_iff.1 h1).1 h).1 (by rw [h1, h2, e]))
theorem Mem.ne_at {w0 w : World} {L : List Blk} {i j : Nat} {b1 b2 : Nat} {t1 t2 : TypeId} {c1 c2 : List Value} (hM : Mem w0 w L) (hi : L[i]? = some ⟨b1, t1, c1⟩) (hj : L[j]? = some ⟨b2, t2, c2⟩) (hij : i ≠ j) : b1 ≠ b2 := nodup_at hM.nodup hi hj hij
theorem own_ne {w0 w : World} {L Lx : List Blk} {m0 : Nat} {e : TypeId} {v : Value} {m j b : Nat} {F : Nat → Value} {t : TypeId} {c : List Value} (ho : Own m0 e v (cells m F) Lx) (hM : Mem w0 w (L ++ Lx)) (hj : L[j]? = some ⟨b, t, c⟩) (hm : 0 < m) : rb v ≠ b := by
  obtain ⟨b', cap, sp, rfl, _, _, rfl⟩ := ho.some (by rw [cells_len]; exact hm)
  have hl : j < L.length := (List.getElem?_eq_some_iff.1 hj).1
  have h1 : (L ++ [⟨b', e, cells m F ++ sp⟩])[j]? = some ⟨b, t, c⟩ := by rw [List.getElem?_append_left hl]; exact hj
  have h2 : (L ++ [⟨b', e, cells m F ++ sp⟩])[L.length]? = some ⟨b', e, cells m F ++ sp⟩ := by simp
  exact hM.ne_at h2 h1 (by omega)
def asH (bg : Bool) (h : HS) : HS := if bg then h else HS.zero
end Go.Sym
namespace Go.Sym
open Go
def numTo (f : Nat → BitVec 8) : Nat → BitVec 64
  | 0 => 0#64
  | k + 1 => numTo f k <<< 8 ||| (f k).setWidth 64
def num (f : Nat → BitVec 8) : BitVec 64 := numTo f 8
end Go.Sym
namespace Go.Sym
open Go
theorem wordsTo_at (f : Nat → BitVec 8) : ∀ k i, wordsTo f k i = if i < k / 8 then num (fun j => f (8 * i + j)) else if i = k / 8 then numTo (fun j => f (8 * i + j)) (k % 8) else 0#64
  | 0, i => by
    show (0 : BitVec 64) = _
    rw [if_neg (by omega)]
    split <;> rfl
  | k + 1, i => by
    have ih := wordsTo_at f k
    show upd (wordsTo f k) (k / 8) (wordsTo f k (k / 8) <<< 8 ||| (f k).setWidth 64) i = _
    unfold upd
    by_cases h : i = k / 8
    · rw [if_pos h, ih (k / 8), if_neg (by omega), if_pos rfl]
      have e : numTo (fun j => f (8 * i + j)) (k % 8 + 1) = numTo (fun j => f (8 * (k / 8) + j)) (k % 8) <<< 8 ||| (f k).setWidth 64 := by
        show numTo (fun j => f (8 * i + j)) (k % 8) <<< 8 ||| (f (8 * i + k % 8)).setWidth 64 = _
        rw [h, Nat.div_add_mod]
      rw [← e]
      by_cases h2 : (k + 1) % 8 = 0
      · rw [if_pos (by omega), show k % 8 + 1 = 8 by omega]; rfl
      · rw [if_neg (by omega), if_pos (by omega), show (k + 1) % 8 = k % 8 + 1 by omega]
    · rw [if_neg h, ih i]
      by_cases h3 : i < k / 8
      · rw [if_pos h3, if_pos (by omega)]
      · rw [if_neg h3, if_neg h]
        by_cases h4 : i < (k + 1) / 8
        · omega
        · rw [if_neg h4]
          by_cases h5 : i = (k + 1) / 8
          · rw [if_pos h5, show (k + 1) % 8 = 0 by omega]; rfl
          · rw [if_neg h5]
end Go.Sym
namespace Go.Sym
open Go
theorem rotr_at (x : BitVec 64) {n : Int} {k l : Nat} (h1 : (BitVec.ofInt 64 (-(n.tmod 64)) &&& 63#64).toNat = l) (h2 : (64#64 - (BitVec.ofInt 64 (-(n.tmod 64)) &&& 63#64)).toNat = k) : rotr x n = x <<< l ||| x >>> k := by
  unfold rotr rotl
  rw [h1, h2]
def rt (x : BitVec 64) (k l : Nat) : BitVec 64 := x <<< l ||| x >>> k
def sm1 (x : BitVec 64) : BitVec 64 := rt x 19 45 ^^^ rt x 61 3 ^^^ x >>> 6
def sm0 (x : BitVec 64) : BitVec 64 := rt x 1 63 ^^^ rt x 8 56 ^^^ x >>> 7
def gr1 (x : BitVec 64) : BitVec 64 := rt x 14 50 ^^^ rt x 18 46 ^^^ rt x 41 23
def gr0 (x : BitVec 64) : BitVec 64 := rt x 28 36 ^^^ rt x 34 30 ^^^ rt x 39 25
theorem sm1_eq (x : BitVec 64) : small x 19 61 6 = sm1 x := by
  unfold small sm1 rt
  rw [rotr_at x (k := 19) (l := 45) (by decide) (by decide), rotr_at x (k := 61) (l := 3) (by decide) (by decide)]
theorem sm0_eq (x : BitVec 64) : small x 1 8 7 = sm0 x := by
  unfold small sm0 rt
  rw [rotr_at x (k := 1) (l := 63) (by decide) (by decide), rotr_at x (k := 8) (l := 56) (by decide) (by decide)]
theorem gr1_eq (x : BitVec 64) : great x 14 18 41 = gr1 x := by
  unfold great gr1 rt
  rw [rotr_at x (k := 14) (l := 50) (by decide) (by decide), rotr_at x (k := 18) (l := 46) (by decide) (by decide), rotr_at x (k := 41) (l := 23) (by decide) (by decide)]
theorem gr0_eq (x : BitVec 64) : great x 28 34 39 = gr0 x := by
  unfold great gr0 rt
  rw [rotr_at x (k := 28) (l := 36) (by decide) (by decide), rotr_at x (k := 34) (l := 30) (by decide) (by decide), rotr_at x (k := 39) (l := 25) (by decide) (by decide)]
def frcN {α : Type} (k : BitVec 64 → α) : Nat → α
  | 0 => k 0#64
  | n + 1 => k (BitVec.ofNat 64 (n + 1))
def frc {α : Type} (x : BitVec 64) (k : BitVec 64 → α) : α := frcN k x.toNat
theorem frc_eq {α : Type} (x : BitVec 64) (k : BitVec 64 → α) : frc x k = k x := by
  unfold frc
  have h : ∀ n, frcN k n = k (BitVec.ofNat 64 n) := fun n => by cases n <;> rfl
  rw [h, BitVec.ofNat_toNat, BitVec.setWidth_eq]
def goS : List (BitVec 64) → (w0 w1 w2 w3 w4 w5 w6 w7 w8 w9 w10 w11 w12 w13 w14 w15 a b c d e f g h : BitVec 64) → List (BitVec 64)
  | [], _, _, _, _, _, _, _, _, _, _, _, _, _, _, _, _, a, b, c, d, e, f, g, h => [a, b, c, d, e, f, g, h]
  | k :: ks, w0, w1, w2, w3, w4, w5, w6, w7, w8, w9, w10, w11, w12, w13, w14, w15, a, b, c, d, e, f, g, h =>
    frc (sm1 w14 + w9 + sm0 w1 + w0) fun w16 => frc (h + gr1 e + ch e f g + k + w0) fun t1 => frc (t1 + (gr0 a + maj a b c)) fun a' => frc (d + t1) fun e' =>
      goS ks w1 w2 w3 w4 w5 w6 w7 w8 w9 w10 w11 w12 w13 w14 w15 w16 a' a b c e' e f g
theorem goS_eq (m s : Nat → BitVec 64) : ∀ (ks : List (BitVec 64)) (t : Nat), (∀ i, i < ks.length → ks[i]? = some (rk (t + i))) →
    goS ks (sched m (t + 0)) (sched m (t + 1)) (sched m (t + 2)) (sched m (t + 3)) (sched m (t + 4)) (sched m (t + 5)) (sched m (t + 6)) (sched m (t + 7)) (sched m (t + 8)) (sched m (t + 9)) (sched m (t + 10)) (sched m (t + 11)) (sched m (t + 12)) (sched m (t + 13)) (sched m (t + 14)) (sched m (t + 15)) (rounds rk (sched m) s t 0) (rounds rk (sched m) s t 1) (rounds rk (sched m) s t 2) (rounds rk (sched m) s t 3) (rounds rk (sched m) s t 4) (rounds rk (sched m) s t 5) (rounds rk (sched m) s t 6) (rounds rk (sched m) s t 7) = [rounds rk (sched m) s (t + ks.length) 0, rounds rk (sched m) s (t + ks.length) 1, rounds rk (sched m) s (t + ks.length) 2, rounds rk (sched m) s (t + ks.length) 3, rounds rk (sched m) s (t + ks.length) 4, rounds rk (sched m) s (t + ks.length) 5, rounds rk (sched m) s (t + ks.length) 6, rounds rk (sched m) s (t + ks.length) 7]
  | [], t, _ => rfl
  | k :: ks, t, hk => by
    have hk0 : k = rk t := by have := hk 0 (by simp); simpa using this
    have ih := goS_eq m s ks (t + 1) (fun i hi => by have := hk (i + 1) (by simp; omega); rw [show t + 1 + i = t + (i + 1) by omega, ← this]; rfl)
    have hw : sched m (t + 16) = sm1 (sched m (t + 14)) + sched m (t + 9) + sm0 (sched m (t + 1)) + sched m (t + 0) := by
      rw [sched_high m (t + 16) (by omega), sm1_eq, sm0_eq]; rfl
    rw [List.length_cons, show t + (ks.length + 1) = t + 1 + ks.length by omega, ← ih]
    rw [goS, frc_eq, frc_eq, frc_eq, frc_eq, ← hw, hk0]
    have hr : rounds rk (sched m) s (t + 1) = rnd (rounds rk (sched m) s t) (rk t) (sched m t) := rfl
    rw [hr]
    unfold rnd
    rw [gr1_eq, gr0_eq]
    have e : ∀ i, t + 1 + i = t + (i + 1) := fun i => by omega
    simp only [e]
    rfl
def rkL : List (BitVec 64) := [0x428a2f98d728ae22#64, 0x7137449123ef65cd#64, 0xb5c0fbcfec4d3b2f#64, 0xe9b5dba58189dbbc#64, 0x3956c25bf348b538#64, 0x59f111f1b605d019#64, 0x923f82a4af194f9b#64, 0xab1c5ed5da6d8118#64, 0xd807aa98a3030242#64, 0x12835b0145706fbe#64, 0x243185be4ee4b28c#64, 0x550c7dc3d5ffb4e2#64, 0x72be5d74f27b896f#64, 0x80deb1fe3b1696b1#64, 0x9bdc06a725c71235#64, 0xc19bf174cf692694#64, 0xe49b69c19ef14ad2#64, 0xefbe4786384f25e3#64, 0x0fc19dc68b8cd5b5#64, 0x240ca1cc77ac9c65#64, 0x2de92c6f592b0275#64, 0x4a7484aa6ea6e483#64, 0x5cb0a9dcbd41fbd4#64, 0x76f988da831153b5#64, 0x983e5152ee66dfab#64, 0xa831c66d2db43210#64, 0xb00327c898fb213f#64, 0xbf597fc7beef0ee4#64, 0xc6e00bf33da88fc2#64, 0xd5a79147930aa725#64, 0x06ca6351e003826f#64, 0x142929670a0e6e70#64, 0x27b70a8546d22ffc#64, 0x2e1b21385c26c926#64, 0x4d2c6dfc5ac42aed#64, 0x53380d139d95b3df#64, 0x650a73548baf63de#64, 0x766a0abb3c77b2a8#64, 0x81c2c92e47edaee6#64, 0x92722c851482353b#64, 0xa2bfe8a14cf10364#64, 0xa81a664bbc423001#64, 0xc24b8b70d0f89791#64, 0xc76c51a30654be30#64, 0xd192e819d6ef5218#64, 0xd69906245565a910#64, 0xf40e35855771202a#64, 0x106aa07032bbd1b8#64, 0x19a4c116b8d2d0c8#64, 0x1e376c085141ab53#64, 0x2748774cdf8eeb99#64, 0x34b0bcb5e19b48a8#64, 0x391c0cb3c5c95a63#64, 0x4ed8aa4ae3418acb#64, 0x5b9cca4f7763e373#64, 0x682e6ff3d6b2b8a3#64, 0x748f82ee5defb2fc#64, 0x78a5636f43172f60#64, 0x84c87814a1f0ab72#64, 0x8cc702081a6439ec#64, 0x90befffa23631e28#64, 0xa4506cebde82bde9#64, 0xbef9a3f7b2c67915#64, 0xc67178f2e372532b#64, 0xca273eceea26619c#64, 0xd186b8c721c0c207#64, 0xeada7dd6cde0eb1e#64, 0xf57d4f7fee6ed178#64, 0x06f067aa72176fba#64, 0x0a637dc5a2c898a6#64, 0x113f9804bef90dae#64, 0x1b710b35131c471b#64, 0x28db77f523047d84#64, 0x32caab7b40c72493#64, 0x3c9ebe0a15c9bebc#64, 0x431d67c49c100d4c#64, 0x4cc5d4becb3e42b6#64, 0x597f299cfc657e2a#64, 0x5fcb6fab3ad6faec#64, 0x6c44198c4a475817#64]
theorem rkL_at : ∀ i, i < 80 → rkL[i]? = some (rk (0 + i)) := by decide +kernel
theorem rounds_congr {k w w' s : Nat → BitVec 64} : ∀ {t : Nat}, (∀ i, i < t → w i = w' i) → rounds k w s t = rounds k w' s t
  | 0, _ => rfl
  | t + 1, h => by
    show rnd _ _ _ = rnd _ _ _
    rw [rounds_congr (t := t) (fun i hi => h i (by omega)), h t (by omega)]
theorem sstep_ev {s m : Nat → BitVec 64} (w0 w1 w2 w3 w4 w5 w6 w7 w8 w9 w10 w11 w12 w13 w14 w15 a b c d e f g h : BitVec 64) {out : List (BitVec 64)} (hw : ∀ i, i < 16 → m i = lst 0 [w0, w1, w2, w3, w4, w5, w6, w7, w8, w9, w10, w11, w12, w13, w14, w15] i) (hs : ∀ i, i < 8 → s i = lst 0 [a, b, c, d, e, f, g, h] i)
    (hr : List.zipWith (· + ·) (goS rkL w0 w1 w2 w3 w4 w5 w6 w7 w8 w9 w10 w11 w12 w13 w14 w15 a b c d e f g h) [a, b, c, d, e, f, g, h] = out) : ∀ i, i < 8 → sstep s m i = lst 0 out i := by
  have hg := goS_eq m s rkL 0 rkL_at
  have hm : ∀ i, i < 16 → sched m (0 + i) = lst 0 [w0, w1, w2, w3, w4, w5, w6, w7, w8, w9, w10, w11, w12, w13, w14, w15] i := fun i hi => by rw [Nat.zero_add, sched_low m i hi, hw i hi]
  have h0 : ∀ i, i < 8 → rounds rk (sched m) s 0 i = lst 0 [a, b, c, d, e, f, g, h] i := hs
  rw [hm 0 (by decide), hm 1 (by decide), hm 2 (by decide), hm 3 (by decide), hm 4 (by decide), hm 5 (by decide), hm 6 (by decide), hm 7 (by decide), hm 8 (by decide), hm 9 (by decide), hm 10 (by decide), hm 11 (by decide), hm 12 (by decide), hm 13 (by decide), hm 14 (by decide), hm 15 (by decide), h0 0 (by decide), h0 1 (by decide), h0 2 (by decide), h0 3 (by decide), h0 4 (by decide), h0 5 (by decide), h0 6 (by decide), h0 7 (by decide)] at hg
  have e : goS rkL w0 w1 w2 w3 w4 w5 w6 w7 w8 w9 w10 w11 w12 w13 w14 w15 a b c d e f g h = _ := hg
  rw [e] at hr
  have hl : 0 + rkL.length = 80 := rfl
  rw [hl] at hr
  have hq : rounds rk (schTo m 80) s 80 = rounds rk (sched m) s 80 := rounds_congr fun i hi => schTo_get m 80 i hi
  intro i hi
  unfold sstep
  rw [sumTo_get, if_pos hi, hq, ← hr, hs i hi]
  match i, hi with
  | 0, _ => rfl
  | 1, _ => rfl
  | 2, _ => rfl
  | 3, _ => rfl
  | 4, _ => rfl
  | 5, _ => rfl
  | 6, _ => rfl
  | 7, _ => rfl
end Go.Sym
namespace Go.Sym
open Go
structure HL where
  s : List (BitVec 64)
  n : Nat
  pre : List Nat
  rest : List Nat
def byF (l : List Nat) : Nat → BitVec 8 := fun i => BitVec.ofNat 8 (lst 0 l i)
def wdL (l : List Nat) (i : Nat) : BitVec 64 := num fun j => byF l (8 * i + j)
def stepL (s : List (BitVec 64)) (l : List Nat) : List (BitVec 64) := match s with
  | [a, b, c, d, e, f, g, h] =>
    frc (wdL l 0) fun w0 => frc (wdL l 1) fun w1 => frc (wdL l 2) fun w2 => frc (wdL l 3) fun w3 => frc (wdL l 4) fun w4 => frc (wdL l 5) fun w5 => frc (wdL l 6) fun w6 => frc (wdL l 7) fun w7 =>
    frc (wdL l 8) fun w8 => frc (wdL l 9) fun w9 => frc (wdL l 10) fun w10 => frc (wdL l 11) fun w11 => frc (wdL l 12) fun w12 => frc (wdL l 13) fun w13 => frc (wdL l 14) fun w14 => frc (wdL l 15) fun w15 =>
    List.zipWith (· + ·) (goS rkL w0 w1 w2 w3 w4 w5 w6 w7 w8 w9 w10 w11 w12 w13 w14 w15 a b c d e f g h) [a, b, c, d, e, f, g, h]
  | _ => s
theorem goS_len : ∀ (ks : List (BitVec 64)) (w0 w1 w2 w3 w4 w5 w6 w7 w8 w9 w10 w11 w12 w13 w14 w15 a b c d e f g h : BitVec 64), (goS ks w0 w1 w2 w3 w4 w5 w6 w7 w8 w9 w10 w11 w12 w13 w14 w15 a b c d e f g h).length = 8
  | [], _, _, _, _, _, _, _, _, _, _, _, _, _, _, _, _, _, _, _, _, _, _, _, _ => rfl
  | _ :: ks, _, _, _, _, _, _, _, _, _, _, _, _, _, _, _, _, _, _, _, _, _, _, _, _ => by
    rw [goS, frc_eq, frc_eq, frc_eq, frc_eq]
    exact goS_len ks _ _ _ _ _ _ _ _ _ _ _ _ _ _ _ _ _ _ _ _ _ _ _ _
theorem words_at (f : Nat → BitVec 8) {l : List Nat} (hf : ∀ i, i < 128 → f i = byF l i) {i : Nat} (hi : i < 16) : wordsTo f 128 i = wdL l i := by
  rw [wordsTo_at, if_pos (by omega)]
  unfold wdL
  have h : ∀ j, j < 8 → f (8 * i + j) = byF l (8 * i + j) := fun j hj => hf _ (by omega)
  have key : ∀ (p q : Nat → BitVec 8), (∀ j, j < 8 → p j = q j) → num p = num q := fun p q hpq => by
    have h2 : ∀ k, k ≤ 8 → numTo p k = numTo q k := by
      intro k
      induction k with
      | zero => intro _; rfl
      | succ k ih => intro hk; show numTo p k <<< 8 ||| (p k).setWidth 64 = numTo q k <<< 8 ||| (q k).setWidth 64; rw [ih (by omega), hpq k (by omega)]
    exact h2 8 (Nat.le_refl _)
  exact key _ _ h
theorem stepL_ok {s : Nat → BitVec 64} {sl : List (BitVec 64)} {f : Nat → BitVec 8} {l : List Nat} (h8 : sl.length = 8) (hs : ∀ i, i < 8 → s i = lst 0 sl i) (hf : ∀ i, i < 128 → f i = byF l i) :
    (stepL sl l).length = 8 ∧ ∀ i, i < 8 → sstep s (wordsTo f 128) i = lst 0 (stepL sl l) i := by
  match sl, h8 with
  | [a, b, c, d, e, f', g, h], _ =>
    unfold stepL
    simp only [frc_eq]
    refine ⟨by rw [List.length_zipWith, goS_len]; rfl, sstep_ev (wdL l 0) (wdL l 1) (wdL l 2) (wdL l 3) (wdL l 4) (wdL l 5) (wdL l 6) (wdL l 7) (wdL l 8) (wdL l 9) (wdL l 10) (wdL l 11) (wdL l 12) (wdL l 13) (wdL l 14) (wdL l 15) a b c d e f' g h (fun i hi => ?_) hs rfl⟩
    rw [words_at f hf hi]
    match i, hi with
    | 0, _ => rfl
    | 1, _ => rfl
    | 2, _ => rfl
    | 3, _ => rfl
    | 4, _ => rfl
    | 5, _ => rfl
    | 6, _ => rfl
    | 7, _ => rfl
    | 8, _ => rfl
    | 9, _ => rfl
    | 10, _ => rfl
    | 11, _ => rfl
    | 12, _ => rfl
    | 13, _ => rfl
    | 14, _ => rfl
    | 15, _ => rfl
    | k + 16, h => exact absurd h (by omega)
def HL.put (h : HL) (c : Nat) : HL := match h.rest with
  | [] => h
  | [_] => ⟨stepL h.s (c :: h.pre).reverse, h.n + 1, [], (c :: h.pre).reverse⟩
  | _ :: r => ⟨h.s, h.n + 1, c :: h.pre, r⟩
def HL.puts (h : HL) : List Nat → HL
  | [] => h
  | c :: l => (h.put c).puts l
structure HLR (h : HS) (g : HL) : Prop where
  s8 : g.s.length = 8
  s : ∀ i, i < 8 → h.s i = lst 0 g.s i
  n : h.n = g.n
  len : g.pre.length + g.rest.length = 128
  pos : g.pre.length = g.n % 128
  w : ∀ i, i < 128 → h.w i = byF (g.pre.reverse ++ g.rest) i
theorem upd_list (p r : List Nat) (x c i : Nat) : byF (p.reverse ++ c :: r) i = upd (byF (p.reverse ++ x :: r)) p.length (BitVec.ofNat 8 c) i := by
  unfold upd byF lst
  by_cases h : i = p.length
  · rw [if_pos h, h]
    simp [List.getD_eq_getElem?_getD]
  · rw [if_neg h]
    congr 1
    rcases Nat.lt_or_ge i p.length with hl | hl
    · simp [List.getD_eq_getElem?_getD, List.getElem?_append, hl]
    · obtain ⟨j, rfl⟩ : ∃ j, i = p.length + (j + 1) := ⟨i - p.length - 1, by omega⟩
      simp [List.getD_eq_getElem?_getD, List.getElem?_append, show ¬ p.length + (j + 1) < p.length by omega]
theorem HLR.put {h : HS} {g : HL} (r : HLR h g) (c : Nat) : HLR (h.put (BitVec.ofNat 8 c)) (g.put c) := by
  obtain ⟨sl, n, pre, rest⟩ := g
  obtain ⟨s8, hs, hn, hlen, hpos, hw⟩ := r
  simp only at s8 hs hn hlen hpos hw
  have hlt : n % 128 < 128 := Nat.mod_lt _ (by decide)
  match rest, hlen, hw with
  | [], hlen, _ => simp only [List.length_nil] at hlen; omega
  | [x], hlen, hw =>
    simp only [List.length_singleton] at hlen
    have hfull : (h.n + 1) % 128 = 0 := by rw [hn]; omega
    have hb : ∀ i, i < 128 → upd h.w (h.n % 128) (BitVec.ofNat 8 c) i = byF (c :: pre).reverse i := fun i hi => by
      rw [List.reverse_cons, upd_list pre [] x c i, hn, ← hpos]
      unfold upd
      by_cases e : i = pre.length
      · rw [if_pos e, if_pos e]
      · rw [if_neg e, if_neg e]; exact hw i hi
    obtain ⟨k1, k2⟩ := stepL_ok s8 hs hb
    unfold HS.put HL.put
    rw [if_pos hfull]
    refine ⟨k1, k2, by simp only [hn], ?_, ?_, fun i hi => ?_⟩
    · simp only [List.length_nil, List.length_reverse, List.length_cons]; omega
    · simp only [List.length_nil]; rw [hn] at hfull; omega
    · simp only [List.reverse_nil, List.nil_append]; exact hb i hi
  | x :: y :: q, hlen, hw =>
    simp only [List.length_cons] at hlen
    have hfull : ¬ (h.n + 1) % 128 = 0 := by rw [hn]; omega
    unfold HS.put HL.put
    rw [if_neg hfull]
    refine ⟨s8, hs, by simp only [hn], ?_, ?_, fun i hi => ?_⟩
    · simp only [List.length_cons]; omega
    · simp only [List.length_cons]; rw [hn] at hfull; omega
    · simp only [List.reverse_cons, List.append_assoc, List.singleton_append]
      rw [upd_list pre (y :: q) x c i, hn, ← hpos]
      unfold upd
      by_cases e : i = pre.length
      · rw [if_pos e, if_pos e]
      · rw [if_neg e, if_neg e]; exact hw i hi
theorem HLR.puts {h : HS} {g : HL} (r : HLR h g) : ∀ (l : List Nat), HLR (h.puts (byF l) l.length) (g.puts l) := by
  intro l
  have key : ∀ (l : List Nat) (h : HS) (g : HL) (k : Nat) (f : Nat → BitVec 8), HLR h g → (∀ i, i < l.length → f i = byF l i) → k = l.length → HLR (h.puts f k) (g.puts l) := by
    intro l
    induction l with
    | nil => intro h g k f r _ hk; subst hk; exact r
    | cons c l ih =>
      intro h g k f r hf hk
      subst hk
      have h1 := ih (h.put (f 0)) (g.put c) l.length (fun i => f (i + 1)) (by rw [hf 0 (by simp)]; exact r.put c) (fun i hi => by rw [hf (i + 1) (by simp; omega)]; rfl) rfl
      have h2 : ∀ k, (h.put (f 0)).puts (fun i => f (i + 1)) k = h.puts f (k + 1) := by
        intro k
        induction k with
        | zero => rfl
        | succ k ihk => show HS.put _ _ = HS.put _ _; rw [ihk]
      rw [List.length_cons, ← h2]
      exact h1
  exact key l h g l.length (byF l) r (fun _ _ => rfl) rfl
def beL (n : Nat) : List Nat := [n / 2 ^ 56 % 256, n / 2 ^ 48 % 256, n / 2 ^ 40 % 256, n / 2 ^ 32 % 256, n / 2 ^ 24 % 256, n / 2 ^ 16 % 256, n / 2 ^ 8 % 256, n % 256]
theorem beL_at (x : BitVec 64) {i : Nat} (h : i < 8) : be x i = byF (beL x.toNat) i := by
  unfold be byF
  apply BitVec.eq_of_toNat_eq
  rw [BitVec.toNat_setWidth, BitVec.toNat_ushiftRight, BitVec.toNat_ofNat, Nat.shiftRight_eq_div_pow]
  match i, h with
  | 0, _ => show _ = _ % 256 % 2 ^ 8; rw [show (2 : Nat) ^ 8 = 256 from rfl, Nat.mod_mod]
  | 1, _ => show _ = _ % 256 % 2 ^ 8; rw [show (2 : Nat) ^ 8 = 256 from rfl, Nat.mod_mod]
  | 2, _ => show _ = _ % 256 % 2 ^ 8; rw [show (2 : Nat) ^ 8 = 256 from rfl, Nat.mod_mod]
  | 3, _ => show _ = _ % 256 % 2 ^ 8; rw [show (2 : Nat) ^ 8 = 256 from rfl, Nat.mod_mod]
  | 4, _ => show _ = _ % 256 % 2 ^ 8; rw [show (2 : Nat) ^ 8 = 256 from rfl, Nat.mod_mod]
  | 5, _ => show _ = _ % 256 % 2 ^ 8; rw [show (2 : Nat) ^ 8 = 256 from rfl, Nat.mod_mod]
  | 6, _ => show _ = _ % 256 % 2 ^ 8; rw [show (2 : Nat) ^ 8 = 256 from rfl, Nat.mod_mod]
  | 7, _ => show _ / 2 ^ 0 % 2 ^ 8 = _ % 256 % 2 ^ 8; rw [Nat.pow_zero, Nat.div_one, show (2 : Nat) ^ 8 = 256 from rfl, Nat.mod_mod]
theorem puts_congr {f g : Nat → BitVec 8} : ∀ {k : Nat} (h : HS), (∀ i, i < k → f i = g i) → h.puts f k = h.puts g k
  | 0, _, _ => rfl
  | k + 1, h, hf => by show HS.put _ _ = HS.put _ _; rw [puts_congr h fun i hi => hf i (by omega), hf k (by omega)]
def HL.sum (g : HL) : HL := (((g.puts [128]).puts (List.replicate (zc g.n) 0)).puts (beL (g.n / 2 ^ 61 % 8))).puts (beL (g.n * 8 % 2 ^ 64))
theorem HLR.sum {h : HS} {g : HL} (r : HLR h g) (hn : h.n < 2 ^ 64) : HLR h.sum g.sum := by
  unfold HL.sum HS.sum HS.sum1
  have h1 := r.puts [128]
  rw [puts_congr (g := fun _ => 128#8) h fun i hi => by simp at hi; subst hi; rfl] at h1
  have h2 := h1.puts (List.replicate (zc g.n) 0)
  rw [puts_congr (g := fun _ => 0#8) _ fun i hi => by
    rw [List.length_replicate] at hi
    unfold byF lst
    rw [List.getD_eq_getElem?_getD, List.getElem?_replicate, if_pos hi]; rfl, List.length_replicate, ← r.n] at h2
  rw [← r.n]
  have e1 : (BitVec.ofNat 64 h.n >>> 61).toNat = h.n / 2 ^ 61 % 8 := by
    rw [BitVec.toNat_ushiftRight, BitVec.toNat_ofNat, Nat.mod_eq_of_lt hn, Nat.shiftRight_eq_div_pow]; omega
  have e2 : (BitVec.ofNat 64 h.n <<< 3).toNat = h.n * 8 % 2 ^ 64 := by
    rw [BitVec.toNat_shiftLeft, BitVec.toNat_ofNat, Nat.mod_eq_of_lt hn, Nat.shiftLeft_eq]
  have h3 := h2.puts (beL (h.n / 2 ^ 61 % 8))
  rw [puts_congr (g := be (BitVec.ofNat 64 h.n >>> 61)) _ fun i hi => by rw [beL_at _ hi, e1]] at h3
  have h4 := h3.puts (beL (h.n * 8 % 2 ^ 64))
  rw [puts_congr (g := be (BitVec.ofNat 64 h.n <<< 3)) _ fun i hi => by rw [beL_at _ hi, e2]] at h4
  exact h4
def flL : List (BitVec 64) → List Nat
  | [] => []
  | x :: l => beL x.toNat ++ flL l
theorem flL_len : ∀ l : List (BitVec 64), (flL l).length = 8 * l.length
  | [] => rfl
  | x :: l => by rw [flL, List.length_append, flL_len l, List.length_cons]; show 8 + _ = _; omega
theorem flL_at : ∀ (l : List (BitVec 64)) (i : Nat), i < 8 * l.length → flatB (lst 0 l) i = byF (flL l) i
  | x :: l, i, h => by
    rw [List.length_cons] at h
    unfold flatB
    by_cases hi : i < 8
    · rw [show i / 8 = 0 by omega, show i % 8 = i by omega, show lst 0 (x :: l) 0 = x from rfl, beL_at x hi]
      unfold byF lst flL
      rw [List.getD_eq_getElem?_getD, List.getD_eq_getElem?_getD, List.getElem?_append_left (by exact hi)]
    · have ih := flL_at l (i - 8) (by omega)
      unfold flatB at ih
      rw [show i / 8 = (i - 8) / 8 + 1 by omega, show i % 8 = (i - 8) % 8 by omega, show lst 0 (x :: l) ((i - 8) / 8 + 1) = lst 0 l ((i - 8) / 8) from rfl, ih]
      unfold byF lst
      rw [flL, List.getD_eq_getElem?_getD, List.getD_eq_getElem?_getD, List.getElem?_append_right (show (beL x.toNat).length ≤ i by show 8 ≤ i; omega)]
      rfl
  | [], i, h => by simp at h
end Go.Sym
namespace Go.Proofs.YtgmieahcpkcabaaGreat
open Go Go.Sym
theorem sz253 : (Tryz.prog.info? 253).map (·.size) = some 16 := by kernel_rfl
theorem zero253 : Zero Tryz.prog 253 (cU 16 (fun _ => 0)) := fun _ => by kernel_rfl
set_option maxRecDepth 100000 in
theorem rotl_ok (x : BitVec 64) (k : Int) (w0 : World) : Pure Tryz.prog 331 #[U x, .int .i64 k] w0 (U (rotl x k)) := by
  refine ⟨by kernel_rfl, ?_⟩
  refine calls_sym Tryz.func331 rfl (by kernel_rfl) ?_
  intro a hS
  have hM : Mem w0 w0 [] := Mem.refl w0
  refine c_seq <| c_region ?_
  refine vg hS <| vv (r_assign · (show ev _ _ = some (U 0#64) from rfl)) ?_; clear hS; intro a hS
  refine s_nil <| k_seq <| c_seq <| c_region ?_
  refine vg hS <| vm rfl <| vv (r_conv · rfl (by kernel_rfl) Tryz.underlying199 (cv_ZU _)) <| vv (r_bv · rfl (show ev _ _ = some (U 63#64) from rfl) gU (b_andU _ _ _)) <| va rfl ?_; clear hS; intro a hS
  refine s_nil <| k_seq <| c_seq <| c_region ?_
  refine vg hS <| vm rfl <| vm rfl <| vv (r_bv · rfl rfl gU (b_shlU _ _ _ (BitVec.toNat _))) <| vm rfl <| vm rfl <| vv (r_bv · (show ev _ _ = some (U 64#64) from rfl) rfl gU (b_subU _ _ _)) <| vv (r_bv · rfl rfl gU (b_shrU _ _ _ (BitVec.toNat _))) <| vv (r_bv · rfl rfl gU (b_orU _ _ _)) <| va rfl ?_; clear hS; intro a hS
  refine s_nil <| k_seq <| c_ret ?_
  exact k_res1 hS rfl (RV.tmp rfl) ⟨rfl, hM.done trivial⟩
set_option maxRecDepth 100000 in
theorem rotr_ok (x : BitVec 64) (n : Int) (_hn : -9223372036854775808 ≤ n ∧ n < 9223372036854775808) (w0 : World) : Pure Tryz.prog 300 #[U x, .int .i64 n] w0 (U (rotr x n)) := by
  have ht := tmod64 n
  refine ⟨by kernel_rfl, ?_⟩
  refine calls_sym Tryz.func300 rfl (by kernel_rfl) ?_
  intro a hS
  have hM : Mem w0 w0 [] := Mem.refl w0
  refine c_seq <| c_region ?_
  refine vg hS <| vv (r_assign · (show ev _ _ = some (U 0#64) from rfl)) ?_; clear hS; intro a hS
  refine s_nil <| k_seq <| c_seq <| c_region ?_
  refine vg hS <| vm rfl <| vm rfl <| vv (r_bv · rfl (show ev _ _ = some (.int .i64 (64)) from rfl) gZ (b_remZ _ _ _ (by omega))) <| vv (r_negZ · rfl (by omega)) ?_; clear hS; intro a hS
  refine s_pure hS hM (by decide) rfl (rotl_ok _ _ _) ?_; clear hS hM; intro a w hS hM
  refine vg hS <| va rfl ?_; clear hS; intro a hS
  refine s_nil <| k_seq <| c_ret ?_
  exact k_res1 hS rfl (RV.tmp rfl) ⟨rfl, hM.done trivial⟩
set_option maxRecDepth 100000 in
theorem ch_ok (x y z : BitVec 64) (w0 : World) : Pure Tryz.prog 250 #[U x, U y, U z] w0 (U (ch x y z)) := by
  refine ⟨by kernel_rfl, ?_⟩
  refine calls_sym Tryz.func250 rfl (by kernel_rfl) ?_
  intro a hS
  have hM : Mem w0 w0 [] := Mem.refl w0
  refine c_seq <| c_region ?_
  refine vg hS <| vv (r_assign · (show ev _ _ = some (U 0#64) from rfl)) ?_; clear hS; intro a hS
  refine s_nil <| k_seq <| c_seq <| c_region ?_
  refine vg hS <| vm rfl <| vm rfl <| vv (r_bv · rfl rfl gU (b_andU _ _ _)) <| vm rfl <| vv (r_notU · rfl) <| vm rfl <| vv (r_bv · rfl rfl gU (b_andU _ _ _)) <| vv (r_bv · rfl rfl gU (b_xorU _ _ _)) <| va rfl ?_; clear hS; intro a hS
  refine s_nil <| k_seq <| c_ret ?_
  exact k_res1 hS rfl (RV.tmp rfl) ⟨rfl, hM.done trivial⟩
set_option maxRecDepth 100000 in
theorem maj_ok (x y z : BitVec 64) (w0 : World) : Pure Tryz.prog 251 #[U x, U y, U z] w0 (U (maj x y z)) := by
  refine ⟨by kernel_rfl, ?_⟩
  refine calls_sym Tryz.func251 rfl (by kernel_rfl) ?_
  intro a hS
  have hM : Mem w0 w0 [] := Mem.refl w0
  refine c_seq <| c_region ?_
  refine vg hS <| vv (r_assign · (show ev _ _ = some (U 0#64) from rfl)) ?_; clear hS; intro a hS
  refine s_nil <| k_seq <| c_seq <| c_region ?_
  refine vg hS <| vm rfl <| vm rfl <| vv (r_bv · rfl rfl gU (b_andU _ _ _)) <| vm rfl <| vm rfl <| vv (r_bv · rfl rfl gU (b_andU _ _ _)) <| vv (r_bv · rfl rfl gU (b_xorU _ _ _)) <| vm rfl <| vm rfl <| vv (r_bv · rfl rfl gU (b_andU _ _ _)) ?_; clear hS; intro a hS
  refine vg hS <| vv (r_bv · rfl rfl gU (b_xorU _ _ _)) <| va rfl ?_; clear hS; intro a hS
  refine s_nil <| k_seq <| c_ret ?_
  exact k_res1 hS rfl (RV.tmp rfl) ⟨rfl, hM.done trivial⟩
set_option maxRecDepth 100000 in
theorem psmall_ok (x : BitVec 64) (a b d : Nat) (_h : a < 64 ∧ b < 64) (w0 : World) : Pure Tryz.prog 299 #[U x, N a, N b, N d] w0 (U (small x a b d)) := by
  refine ⟨by kernel_rfl, ?_⟩
  refine calls_sym Tryz.func299 rfl (by kernel_rfl) ?_
  intro a hS
  have hM : Mem w0 w0 [] := Mem.refl w0
  refine c_seq <| c_region ?_
  refine vg hS <| vv (r_assign · (show ev _ _ = some (U 0#64) from rfl)) ?_; clear hS; intro a hS
  refine s_nil <| k_seq <| c_seq ?_
  refine c_plan 12 (fun w => Mem w0 w _) [(0, _), (1, _), (2, _), (3, _)] (by kernel_rfl) (by kernel_rfl) hS ⟨rfl, rfl, rfl, rfl, trivial⟩ (hM.drawn _) ?_; clear hS hM
  refine pv rfl (fun hS _ => r_move hS rfl) <| pv rfl (fun hS _ => r_move hS rfl) ?_
  refine p_step rfl (fun a w hS hM => y_call (by kernel_rfl) hS rfl ((rotr_ok _ _ (by omega) _).mem hM)) ?_
  refine pv rfl (fun hS _ => r_move hS rfl) <| pv rfl (fun hS _ => r_move hS rfl) ?_
  refine p_step rfl (fun a w hS hM => y_call (by kernel_rfl) hS rfl ((rotr_ok _ _ (by omega) _).mem hM)) ?_
  refine pv rfl (fun hS _ => r_bv hS rfl rfl gU (b_xorU _ _ _)) <| pv rfl (fun hS _ => r_move hS rfl) <| pv rfl (fun hS _ => r_move hS rfl) <| pv rfl (fun hS _ => r_bv hS rfl rfl gU (b_shrU _ _ _ _)) <| pv rfl (fun hS _ => r_bv hS rfl rfl gU (b_xorU _ _ _)) <| pv rfl (fun hS _ => r_assign hS rfl) ?_
  refine p_nil rfl ?_; intro a w hS hM
  refine s_nil <| k_seq <| c_ret ?_
  exact k_res1 hS rfl (RV.tmp rfl) ⟨rfl, hM.done trivial⟩
set_option maxRecDepth 100000 in
theorem great_ok (x : BitVec 64) (a b c : Nat) (_h : a < 64 ∧ b < 64 ∧ c < 64) (w0 : World) : Pure Tryz.prog 249 #[U x, N a, N b, N c] w0 (U (great x a b c)) := by
  refine ⟨by kernel_rfl, ?_⟩
  refine calls_sym Tryz.func249 rfl (by kernel_rfl) ?_
  intro a hS
  have hM : Mem w0 w0 [] := Mem.refl w0
  refine c_seq <| c_region ?_
  refine vg hS <| vv (r_assign · (show ev _ _ = some (U 0#64) from rfl)) ?_; clear hS; intro a hS
  refine s_nil <| k_seq <| c_seq <| c_region ?_
  refine vg hS <| vm rfl <| vm rfl ?_; clear hS; intro a hS
  refine s_pure hS hM (by decide) rfl (rotr_ok _ _ (by omega) _) ?_; clear hS hM; intro a w hS hM
  refine vg hS <| vm rfl <| vm rfl ?_; clear hS; intro a hS
  refine s_pure hS hM (by decide) rfl (rotr_ok _ _ (by omega) _) ?_; clear hS hM; intro a w hS hM
  refine vg hS <| vv (r_bv · rfl rfl gU (b_xorU _ _ _)) <| vm rfl <| vm rfl ?_; clear hS; intro a hS
  refine s_pure hS hM (by decide) rfl (rotr_ok _ _ (by omega) _) ?_; clear hS hM; intro a w hS hM
  refine vg hS <| vv (r_bv · rfl rfl gU (b_xorU _ _ _)) <| va rfl ?_; clear hS; intro a hS
  refine s_nil <| k_seq <| c_ret ?_
  exact k_res1 hS rfl (RV.tmp rfl) ⟨rfl, hM.done trivial⟩
set_option maxRecDepth 100000 in
theorem words_ok (w0 : World) (b off cap : Nat) (f : Nat → BitVec 8) (hb : b < w0.heap.size) (hget : ∀ i, i < 128 → w0.cell? ⟨b, off + i, none⟩ = some (B (f i))) : Pure Tryz.prog 178 #[.slice (some ⟨b, off, none⟩) 128 cap] w0 (.tuple #[.agg (cU 16 (wordsTo f 128)).toArray, .bool true]) := by
  refine ⟨by kernel_rfl, ?_⟩
  refine calls_sym Tryz.func178 rfl (by kernel_rfl) ?_
  intro a hS
  have hM : Mem w0 w0 [] := Mem.refl w0
  refine c_seq <| c_region ?_
  refine s_alloc hS hM (by decide) zero253 ?_; clear hS hM; intro a b2 w hb2 hS hM
  refine vg hS <| va rfl ?_; clear hS; intro a hS
  refine s_nil <| k_seq <| c_seq <| c_region ?_
  refine s_alloc hS hM (by decide) zero253 ?_; clear hS hM; intro a b4 w hb4 hS hM
  refine s_nil <| k_seq <| c_seq <| c_seq <| c_region ?_
  refine vg hS <| vm rfl <| vv (r_len · rfl Tryz.underlying36) <| vv (r_bv · rfl (show ev _ _ = some (N 128) from rfl) gN (b_neqN _ _ _)) ?_; clear hS; intro a hS
  refine s_nil <| k_seq ?_
  refine c_false hS rfl (rfl) ?_
  refine c_skip <| k_seq <| c_seq <| c_seq <| c_region ?_
  refine vg hS <| vm rfl <| vv (r_len · rfl Tryz.underlying36) <| vv (r_move · (show ev _ _ = some (N 0) from rfl)) ?_; clear hS; intro a hS
  refine s_nil <| k_seq <| c_block ?_
  refine c_loop (σ := Nat) (fun k a w => (k ≤ 128) ∧ Slots a 31 (env [(11, .slice (some ⟨b, off, none⟩) 128 cap), (12, N 128), (13, N k), (4, ptr b4 0), (2, ptr b2 0)]) ∧ Mem w0 w ([⟨b4, 253, cU 16 (wordsTo f k)⟩, ⟨b2, 253, cU 16 (fun _ => 0)⟩])) (fun k => 128 - k) (0) ⟨by omega, hS.to _ ⟨rfl, rfl, rfl, rfl, rfl, trivial⟩, hM⟩ ?_
  clear hS hM; rintro k a w ⟨hk, hS, hM⟩
  refine c_seq <| c_region ?_
  refine vg hS <| vv (r_bv · rfl rfl gN (b_lssN _ _ _)) ?_; clear hS; intro a hS
  refine s_nil <| k_seq <| c_seq ?_
  refine c_cond hS rfl (fun hc => ?_) (fun hc => ?_)
  · try simp at hc
    refine c_skip <| k_seq <| c_seq <| c_block <| c_seq <| c_region ?_
    refine vg hS <| vm rfl <| vv (r_indexS1 · rfl rfl Tryz.underlying36 sz5 (by omega)) <| vv (r_loadOut · hM rfl hb (allNe_spec ⟨ne_fresh hb hb4, ne_fresh hb hb2, trivial⟩) Tryz.underlying5 rfl (hget _ (by omega))) <| va rfl <| va rfl ?_; clear hS; intro a hS
    refine s_nil <| k_seq <| c_region ?_
    refine vg hS <| vm rfl <| vv (r_bv · rfl (show ev _ _ = some (N 8) from rfl) gN (b_quoN _ _ _ (by omega) (by omega))) <| vm rfl <| vv (r_bv · rfl (show ev _ _ = some (N 8) from rfl) gN (b_quoN _ _ _ (by omega) (by omega))) <| vv (r_index0 · rfl rfl Tryz.underlying253 sz45 (by omega)) <| vv (r_load · hM rfl (j := 0) rfl Tryz.underlying45 rfl (cells_get (by omega))) <| vv (r_bv · rfl (show ev _ _ = some (.int .u64 ((8 : Nat) : Int)) from rfl) gU (b_shlU _ _ _ 8)) <| vm rfl <| vv (r_conv · rfl (by kernel_rfl) Tryz.underlying45 (cv_BU _)) <| vv (r_bv · rfl rfl gU (b_orU _ _ _)) ?_; clear hS; intro a hS
    refine vg hS <| vv (r_index0 · rfl rfl Tryz.underlying253 sz45 (by omega)) ?_; clear hS; intro a hS
    refine s_storeU hS hM rfl rfl (j := 0) rfl sz45 (by omega) ?_; clear hS hM; intro a w hS hM
    refine s_nil <| k_in <| k_seq <| c_region ?_
    refine vg hS <| vv (r_bv · rfl (show ev _ _ = some (N 1) from rfl) gN (b_addN _ _ _ (by omega))) <| vm rfl ?_; clear hS; intro a hS
    refine s_nil <| k_then ?_
    refine ⟨k + 1, by omega, by omega, hS.to _ ⟨rfl, rfl, rfl, rfl, rfl, trivial⟩, hM⟩
  · simp only [decide_eq_false_iff_not] at hc; obtain rfl : k = 128 := by omega
    refine c_exit <| k_thenx <| k_thenx <| k_inx <| k_seq <| c_seq <| c_region ?_
    refine vg hS <| vv (r_loadAll · hM rfl (j := 0) rfl Tryz.underlying253 rfl sz253 cells_len) ?_; clear hS; intro a hS
    refine s_storeAll hS hM rfl rfl (j := 1) rfl sz253 cells_len cells_len cU_one ?_; clear hS hM; intro a w hS hM
    refine vg hS <| va rfl ?_; clear hS; intro a hS
    refine s_nil <| k_seq <| c_ret ?_
    exact k_res2 hS rfl (RV.row rfl (hM.have_ _ (mem_of_get (j := 1) rfl)) Tryz.underlying253 rfl (by rw [sz253]; exact congrArg some cells_len.symm)) (RV.tmp rfl) ⟨rfl, hM.done ⟨hb4, hb2, trivial⟩⟩
set_option maxRecDepth 100000 in
theorem words_no (w0 : World) (ad : Option Addr) (len cap : Nat) (hl : len ≠ 128) : Pure Tryz.prog 178 #[.slice ad len cap] w0 (.tuple #[.agg (cU 16 (fun _ => 0)).toArray, .bool false]) := by
  refine ⟨by kernel_rfl, ?_⟩
  refine calls_sym Tryz.func178 rfl (by kernel_rfl) ?_
  intro a hS
  have hM : Mem w0 w0 [] := Mem.refl w0
  refine c_seq <| c_region ?_
  refine s_alloc hS hM (by decide) zero253 ?_; clear hS hM; intro a b2 w hb2 hS hM
  refine vg hS <| va rfl ?_; clear hS; intro a hS
  refine s_nil <| k_seq <| c_seq <| c_region ?_
  refine s_alloc hS hM (by decide) zero253 ?_; clear hS hM; intro a b4 w hb4 hS hM
  refine s_nil <| k_seq <| c_seq <| c_seq <| c_region ?_
  refine vg hS <| vm rfl <| vv (r_len · rfl Tryz.underlying36) <| vv (r_bv · rfl (show ev _ _ = some (N 128) from rfl) gN (b_neqN _ _ _)) ?_; clear hS; intro a hS
  refine s_nil <| k_seq ?_
  refine c_true hS rfl (by simp [hl]) ?_
  refine c_seq <| c_region ?_
  refine vg hS <| vv (r_loadAll · hM rfl (j := 0) rfl Tryz.underlying253 rfl sz253 cells_len) ?_; clear hS; intro a hS
  refine s_storeAll hS hM rfl rfl (j := 1) rfl sz253 cells_len cells_len cU_one ?_; clear hS hM; intro a w hS hM
  refine vg hS <| va rfl ?_; clear hS; intro a hS
  refine s_nil <| k_seq <| c_ret <| k_thenr ?_
  exact k_res2 hS rfl (RV.row rfl (hM.have_ _ (mem_of_get (j := 1) rfl)) Tryz.underlying253 rfl (by rw [sz253]; exact congrArg some cells_len.symm)) (RV.tmp rfl) ⟨rfl, hM.done ⟨hb4, hb2, trivial⟩⟩
end Go.Proofs.YtgmieahcpkcabaaGreat
namespace Go.Sym
open Go
end Go.Sym
namespace Go.Proofs.YtgmieahcpkcabaaGreat
open Go Go.Sym
theorem sz193 : (Tryz.prog.info? 193).map (·.size) = some 8 := by kernel_rfl
theorem sz316 : (Tryz.prog.info? 316).map (·.size) = some 80 := by kernel_rfl
theorem zero193 : Zero Tryz.prog 193 (cU 8 (fun _ => 0)) := fun _ => by kernel_rfl
theorem zero316 : Zero Tryz.prog 316 (cU 80 (fun _ => 0)) := fun _ => by kernel_rfl
theorem build193 (x0 x1 x2 x3 x4 x5 x6 x7 : BitVec 64) (w : World) : (Instr.build 193 ([(0, U x0), (1, U x1), (2, U x2), (3, U x3), (4, U x4), (5, U x5), (6, U x6), (7, U x7)] : List (Nat × Value)).toArray).run Tryz.prog w = .ok (.agg (cU 8 (lst 0 [x0, x1, x2, x3, x4, x5, x6, x7])).toArray) w := by kernel_rfl
theorem build316 (x0 x1 x2 x3 x4 x5 x6 x7 x8 x9 x10 x11 x12 x13 x14 x15 x16 x17 x18 x19 x20 x21 x22 x23 x24 x25 x26 x27 x28 x29 x30 x31 x32 x33 x34 x35 x36 x37 x38 x39 x40 x41 x42 x43 x44 x45 x46 x47 x48 x49 x50 x51 x52 x53 x54 x55 x56 x57 x58 x59 x60 x61 x62 x63 x64 x65 x66 x67 x68 x69 x70 x71 x72 x73 x74 x75 x76 x77 x78 x79 : BitVec 64) (w : World) : (Instr.build 316 ([(0, U x0), (1, U x1), (2, U x2), (3, U x3), (4, U x4), (5, U x5), (6, U x6), (7, U x7), (8, U x8), (9, U x9), (10, U x10), (11, U x11), (12, U x12), (13, U x13), (14, U x14), (15, U x15), (16, U x16), (17, U x17), (18, U x18), (19, U x19), (20, U x20), (21, U x21), (22, U x22), (23, U x23), (24, U x24), (25, U x25), (26, U x26), (27, U x27), (28, U x28), (29, U x29), (30, U x30), (31, U x31), (32, U x32), (33, U x33), (34, U x34), (35, U x35), (36, U x36), (37, U x37), (38, U x38), (39, U x39), (40, U x40), (41, U x41), (42, U x42), (43, U x43), (44, U x44), (45, U x45), (46, U x46), (47, U x47), (48, U x48), (49, U x49), (50, U x50), (51, U x51), (52, U x52), (53, U x53), (54, U x54), (55, U x55), (56, U x56), (57, U x57), (58, U x58), (59, U x59), (60, U x60), (61, U x61), (62, U x62), (63, U x63), (64, U x64), (65, U x65), (66, U x66), (67, U x67), (68, U x68), (69, U x69), (70, U x70), (71, U x71), (72, U x72), (73, U x73), (74, U x74), (75, U x75), (76, U x76), (77, U x77), (78, U x78), (79, U x79)] : List (Nat × Value)).toArray).run Tryz.prog w = .ok (.agg (cU 80 (lst 0 [x0, x1, x2, x3, x4, x5, x6, x7, x8, x9, x10, x11, x12, x13, x14, x15, x16, x17, x18, x19, x20, x21, x22, x23, x24, x25, x26, x27, x28, x29, x30, x31, x32, x33, x34, x35, x36, x37, x38, x39, x40, x41, x42, x43, x44, x45, x46, x47, x48, x49, x50, x51, x52, x53, x54, x55, x56, x57, x58, x59, x60, x61, x62, x63, x64, x65, x66, x67, x68, x69, x70, x71, x72, x73, x74, x75, x76, x77, x78, x79])).toArray) w := by kernel_rfl
set_option maxRecDepth 100000 in
theorem rk_ok  (w0 : World) : Pure Tryz.prog 247 #[] w0 (.agg (cU 80 rk).toArray) := by
  refine ⟨by kernel_rfl, ?_⟩
  refine calls_sym Tryz.func247 rfl (by kernel_rfl) ?_
  intro a hS
  have hM : Mem w0 w0 [] := Mem.refl w0
  refine c_seq <| c_region ?_
  refine s_alloc hS hM (by decide) zero316 ?_; clear hS hM; intro a b0 w hb0 hS hM
  refine s_nil <| k_seq <| c_seq <| c_region ?_
  refine vg hS <| vv (r_build · (vs := [(0, U 4794697086780616226#64), (1, U 8158064640168781261#64), (2, U 13096744586834688815#64), (3, U 16840607885511220156#64), (4, U 4131703408338449720#64), (5, U 6480981068601479193#64), (6, U 10538285296894168987#64), (7, U 12329834152419229976#64), (8, U 15566598209576043074#64), (9, U 1334009975649890238#64), (10, U 2608012711638119052#64), (11, U 6128411473006802146#64), (12, U 8268148722764581231#64), (13, U 9286055187155687089#64), (14, U 11230858885718282805#64), (15, U 13951009754708518548#64), (16, U 16472876342353939154#64), (17, U 17275323862435702243#64), (18, U 1135362057144423861#64), (19, U 2597628984639134821#64), (20, U 3308224258029322869#64), (21, U 5365058923640841347#64), (22, U 6679025012923562964#64), (23, U 8573033837759648693#64), (24, U 10970295158949994411#64), (25, U 12119686244451234320#64), (26, U 12683024718118986047#64), (27, U 13788192230050041572#64), (28, U 14330467153632333762#64), (29, U 15395433587784984357#64), (30, U 489312712824947311#64), (31, U 1452737877330783856#64), (32, U 2861767655752347644#64), (33, U 3322285676063803686#64), (34, U 5560940570517711597#64), (35, U 5996557281743188959#64), (36, U 7280758554555802590#64), (37, U 8532644243296465576#64), (38, U 9350256976987008742#64), (39, U 10552545826968843579#64), (40, U 11727347734174303076#64), (41, U 12113106623233404929#64), (42, U 14000437183269869457#64), (43, U 14369950271660146224#64), (44, U 15101387698204529176#64), (45, U 15463397548674623760#64), (46, U 17586052441742319658#64), (47, U 1182934255886127544#64), (48, U 1847814050463011016#64), (49, U 2177327727835720531#64), (50, U 2830643537854262169#64), (51, U 3796741975233480872#64), (52, U 4115178125766777443#64), (53, U 5681478168544905931#64), (54, U 6601373596472566643#64), (55, U 7507060721942968483#64), (56, U 8399075790359081724#64), (57, U 8693463985226723168#64), (58, U 9568029438360202098#64), (59, U 10144078919501101548#64), (60, U 10430055236837252648#64), (61, U 11840083180663258601#64), (62, U 13761210420658862357#64), (63, U 14299343276471374635#64), (64, U 14566680578165727644#64), (65, U 15097957966210449927#64), (66, U 16922976911328602910#64), (67, U 17689382322260857208#64), (68, U 500013540394364858#64), (69, U 748580250866718886#64), (70, U 1242879168328830382#64), (71, U 1977374033974150939#64), (72, U 2944078676154940804#64), (73, U 3659926193048069267#64), (74, U 4368137639120453308#64), (75, U 4836135668995329356#64), (76, U 5532061633213252278#64), (77, U 6448918945643986474#64), (78, U 6902733635092675308#64), (79, U 7801388544844847127#64)]) rfl (build316 _ _ _ _ _ _ _ _ _ _ _ _ _ _ _ _ _ _ _ _ _ _ _ _ _ _ _ _ _ _ _ _ _ _ _ _ _ _ _ _ _ _ _ _ _ _ _ _ _ _ _ _ _ _ _ _ _ _ _ _ _ _ _ _ _ _ _ _ _ _ _ _ _ _ _ _ _ _ _ _)) ?_; clear hS; intro a hS
  refine s_storeAll hS hM rfl rfl (j := 0) rfl sz316 cells_len cells_len cU_one ?_; clear hS hM; intro a w hS hM
  refine s_nil <| k_seq <| c_ret ?_
  exact k_res1 hS rfl (RV.row rfl (hM.have_ _ (mem_of_get (j := 0) rfl)) Tryz.underlying316 rfl (by rw [sz316]; exact congrArg some cells_len.symm)) ⟨rfl, hM.done ⟨hb0, trivial⟩⟩
set_option maxRecDepth 100000 in
theorem schedule_ok (m : Nat → BitVec 64) (w0 : World) : Pure Tryz.prog 248 #[.agg (cU 16 m).toArray] w0 (.agg (cU 80 (schTo m 80)).toArray) := by
  refine ⟨by kernel_rfl, ?_⟩
  refine calls_sym Tryz.func248 rfl (by kernel_rfl) ?_
  intro a hS
  have hM : Mem w0 w0 [] := Mem.refl w0
  refine c_seq <| c_region ?_
  refine s_box hS hM (by decide) rfl rfl ?_; clear hS hM; intro a b1 w hb1 hS hM
  refine s_alloc hS hM (by decide) zero316 ?_; clear hS hM; intro a b2 w hb2 hS hM
  refine s_nil <| k_seq <| c_seq <| c_region ?_
  refine s_alloc hS hM (by decide) zero316 ?_; clear hS hM; intro a b3 w hb3 hS hM
  refine s_nil <| k_seq <| c_seq ?_
  refine c_plan 2 (fun w => Mem w0 w _) [(3, _), (1, _), (2, _)] (by kernel_rfl) (by kernel_rfl) hS ⟨rfl, rfl, rfl, trivial⟩ (hM.drawn _) ?_; clear hS hM
  refine pv rfl (fun hS _ => r_sliceA0 hS rfl Tryz.underlying316 sz45) <| pv rfl (fun hS _ => r_sliceA0 hS rfl Tryz.underlying253 sz45) ?_
  refine p_nil rfl ?_; intro a w hS hM
  refine s_copy hS hM (by decide) rfl rfl Tryz.underlying363 sz45 (j := 0) rfl (Rd.of_mem hM (j := 2) (o := 0) rfl (Nat.le_refl _) (fun i hi => by rw [Nat.zero_add]; exact cells_get hi)) (fun _ _ => rfl) (by simp only [cells_len]; decide) ?_; clear hS hM; intro a w hS hM
  replace hM := hM.congr (L' := [⟨b3, 316, cU 80 (schTo m 16)⟩, ⟨b2, 316, cU 80 (fun _ => 0)⟩, ⟨b1, 253, cU 16 m⟩]) (congrArg (fun c => [(⟨b3, 316, c⟩ : Blk), ⟨b2, 316, cU 80 (fun _ => 0)⟩, ⟨b1, 253, cU 16 m⟩]) (by rw [show min 16 80 = 16 from rfl, splice_cells (by decide)]; refine cells_congr fun i _ => ?_; rw [schTo_16]; by_cases h : i < 16 <;> simp [h]))
  refine s_nil <| k_seq <| c_seq <| c_seq <| c_region ?_
  refine vg hS <| vv (r_assign · (show ev _ _ = some (N 16) from rfl)) ?_; clear hS; intro a hS
  refine s_nil <| k_seq <| c_block ?_
  refine c_loop (σ := Nat) (fun k a w => (16 ≤ k ∧ k ≤ 80) ∧ Slots a 36 (env [(2, ptr b2 0), (3, ptr b3 0), (4, N k)]) ∧ Mem w0 w ([⟨b3, 316, cU 80 (schTo m k)⟩, ⟨b2, 316, cU 80 (fun _ => 0)⟩, ⟨b1, 253, cU 16 m⟩])) (fun k => 80 - k) (16) ⟨by omega, hS.to _ ⟨rfl, rfl, rfl, trivial⟩, hM⟩ ?_
  clear hS hM; rintro k a w ⟨hk, hS, hM⟩
  refine c_seq <| c_seq <| c_region ?_
  refine vg hS <| vm rfl <| vv (r_bv · rfl (show ev _ _ = some (N 80) from rfl) gN (b_lssN _ _ _)) ?_; clear hS; intro a hS
  refine s_nil <| k_seq ?_
  refine c_cond hS rfl (fun hc => ?_) (fun hc => ?_)
  · have hk1 := of_decide_eq_true hc
    refine c_skip <| k_seq <| c_seq <| c_block ?_
    refine c_plan 23 (fun w => Mem w0 w _) [(4, _), (3, _), (2, _), (8, _), (9, _)] (by kernel_rfl) (by kernel_rfl) hS ⟨rfl, rfl, rfl, rfl, rfl, trivial⟩ (hM.drawn _) ?_; clear hS hM
    refine pv rfl (fun hS _ => r_move hS rfl) <| pv rfl (fun hS _ => r_move hS rfl) <| pv rfl (fun hS _ => r_bv hS rfl (show ev _ _ = some (N 2) from rfl) gN (b_subN _ _ _ (by omega) (by omega))) <| pv rfl (fun hS _ => r_index0 hS rfl rfl Tryz.underlying316 sz45 (by omega)) <| pv rfl (fun hS hM => r_load hS hM rfl (j := 0) rfl Tryz.underlying45 rfl (cells_get (by omega))) ?_
    refine p_step rfl (fun a w hS hM => y_call (by kernel_rfl) hS (vs := [_, N 19, N 61, N 6]) rfl ((psmall_ok _ _ _ _ (by omega) _).mem hM)) ?_
    refine pv rfl (fun hS _ => r_move hS rfl) <| pv rfl (fun hS _ => r_bv hS rfl (show ev _ _ = some (N 7) from rfl) gN (b_subN _ _ _ (by omega) (by omega))) <| pv rfl (fun hS _ => r_index0 hS rfl rfl Tryz.underlying316 sz45 (by omega)) <| pv rfl (fun hS hM => r_load hS hM rfl (j := 0) rfl Tryz.underlying45 rfl (cells_get (by omega))) <| pv rfl (fun hS _ => r_bv hS rfl rfl gU (b_addU _ _ _)) <| pv rfl (fun hS _ => r_move hS rfl) <| pv rfl (fun hS _ => r_bv hS rfl (show ev _ _ = some (N 15) from rfl) gN (b_subN _ _ _ (by omega) (by omega))) <| pv rfl (fun hS _ => r_index0 hS rfl rfl Tryz.underlying316 sz45 (by omega)) <| pv rfl (fun hS hM => r_load hS hM rfl (j := 0) rfl Tryz.underlying45 rfl (cells_get (by omega))) ?_
    refine p_step rfl (fun a w hS hM => y_call (by kernel_rfl) hS (vs := [_, N 1, N 8, N 7]) rfl ((psmall_ok _ _ _ _ (by omega) _).mem hM)) ?_
    refine pv rfl (fun hS _ => r_bv hS rfl rfl gU (b_addU _ _ _)) <| pv rfl (fun hS _ => r_move hS rfl) <| pv rfl (fun hS _ => r_bv hS rfl (show ev _ _ = some (N 16) from rfl) gN (b_subN _ _ _ (by omega) (by omega))) <| pv rfl (fun hS _ => r_index0 hS rfl rfl Tryz.underlying316 sz45 (by omega)) <| pv rfl (fun hS hM => r_load hS hM rfl (j := 0) rfl Tryz.underlying45 rfl (cells_get (by omega))) <| pv rfl (fun hS _ => r_bv hS rfl rfl gU (b_addU _ _ _)) <| pv rfl (fun hS _ => r_index0 hS rfl rfl Tryz.underlying316 sz45 (by omega)) ?_
    refine p_nil rfl ?_; intro a w hS hM
    refine s_storeU hS hM rfl rfl (j := 0) rfl sz45 (by omega) ?_; clear hS hM; intro a w hS hM
    refine s_nil <| k_in <| k_seq <| c_region ?_
    refine vg hS <| vm rfl <| vv (r_bv · rfl (show ev _ _ = some (N 1) from rfl) gN (b_addN _ _ _ (by omega))) <| va rfl ?_; clear hS; intro a hS
    refine s_nil <| k_then ?_
    refine ⟨k + 1, by omega, by omega, hS.to _ ⟨rfl, rfl, rfl, trivial⟩, (hM.congr (by rw [schTo_high m k hk.1]; rfl))⟩
  · obtain rfl : k = 80 := by have := of_decide_eq_false hc; omega
    refine c_exit <| k_thenx <| k_thenx <| k_inx <| k_seq <| c_seq <| c_region ?_
    refine vg hS <| vv (r_loadAll · hM rfl (j := 0) rfl Tryz.underlying316 rfl sz316 cells_len) ?_; clear hS; intro a hS
    refine s_storeAll hS hM rfl rfl (j := 1) rfl sz316 cells_len cells_len cU_one ?_; clear hS hM; intro a w hS hM
    refine s_nil <| k_seq <| c_ret ?_
    exact k_res1 hS rfl (RV.row rfl (hM.have_ _ (mem_of_get (j := 1) rfl)) Tryz.underlying316 rfl (by rw [sz316]; exact congrArg some cells_len.symm)) ⟨rfl, hM.done ⟨hb3, hb2, hb1, trivial⟩⟩
set_option maxRecDepth 100000 in
theorem step_ok (s m : Nat → BitVec 64) (w0 : World) : Pure Tryz.prog 179 #[.agg (cU 8 s).toArray, .agg (cU 16 m).toArray] w0 (.agg (cU 8 (sstep s m)).toArray) := by
  refine ⟨by kernel_rfl, ?_⟩
  refine calls_sym Tryz.func179 rfl (by kernel_rfl) ?_
  intro a hS
  have hM : Mem w0 w0 [] := Mem.refl w0
  refine c_seq <| c_region ?_
  refine s_box hS hM (by decide) rfl rfl ?_; clear hS hM; intro a b2 w hb2 hS hM
  refine s_box hS hM (by decide) rfl rfl ?_; clear hS hM; intro a b3 w hb3 hS hM
  refine s_alloc hS hM (by decide) zero193 ?_; clear hS hM; intro a b4 w hb4 hS hM
  refine s_nil <| k_seq <| c_seq ?_
  refine c_gplan 5 (fun _ => [⟨b4, 193, cU 8 (fun _ => 0)⟩, ⟨b3, 253, cU 16 m⟩, ⟨b2, 193, cU 8 s⟩]) [(2, ptr b2 0), (3, ptr b3 0), (4, ptr b4 0)] (fun i V Bl => match i with | 0 => V 0 = .agg (cU 80 rk).toArray ∧ Bl 0 = [] | 1 => V 1 = .agg (cU 16 m).toArray ∧ Bl 1 = [] | 2 => V 2 = .agg (cU 80 (schTo m 80)).toArray ∧ Bl 2 = [] | 3 => ∃ b, V 3 = ptr b 0 ∧ Bl 3 = [⟨b, 316, cU 80 (fun _ => 0)⟩] | 4 => ∃ b, V 4 = ptr b 0 ∧ Bl 4 = [⟨b, 316, cU 80 (fun _ => 0)⟩] | _ => True) (by kernel_rfl) (by kernel_rfl) hS ⟨rfl, rfl, rfl, trivial⟩ hM ?_ ?_
  · clear hS hM
    refine ⟨?_, ?_, ?_, ?_, ?_, trivial⟩
    · intro S V Bl X a w hp hs hR hX hS hM hn
      exact gy_pure hS rfl (rk_ok _) hM fun w' hM' => ⟨⟨rfl, rfl⟩, (fun _ h => by cases h), hM'⟩
    · intro S V Bl X a w hp hs hR hX hS hM hn
      exact gy_val rfl (r_loadAll hS (hM.dropApp hn) rfl (j := 1) rfl Tryz.underlying253 rfl sz253 cells_len) ⟨⟨rfl, rfl⟩, (fun _ h => by cases h), hM⟩
    · intro S V Bl X a w hp hs hR hX hS hM hn
      have h1 : V 1 = .agg (cU 16 m).toArray := (hR 1 rfl).1
      replace hS := hS.to [(13, .agg (cU 16 m).toArray)] ⟨congrArg some h1, trivial⟩
      exact gy_pure hS rfl (schedule_ok _ _) hM fun w' hM' => ⟨⟨rfl, rfl⟩, (fun _ h => by cases h), hM'⟩
    · intro S V Bl X a w hp hs hR hX hS hM hn
      exact gy_alloc zero316 ⟨⟨_, rfl, rfl⟩, (fun e he => by simp only [List.mem_singleton] at he; subst he; exact hM.size), hM.alloc _ _⟩
    · intro S V Bl X a w hp hs hR hX hS hM hn
      exact gy_alloc zero316 ⟨⟨_, rfl, rfl⟩, (fun e he => by simp only [List.mem_singleton] at he; subst he; exact hM.size), hM.alloc _ _⟩
  clear hS hM; intro V Bl a w hR hN hS hM
  obtain ⟨v0, B0⟩ : V 0 = .agg (cU 80 rk).toArray ∧ Bl 0 = [] := hR 0 (by decide)
  have B1 : Bl 1 = [] := (hR 1 (by decide)).2
  obtain ⟨v2, B2⟩ : V 2 = .agg (cU 80 (schTo m 80)).toArray ∧ Bl 2 = [] := hR 2 (by decide)
  obtain ⟨b5, v3, B3⟩ : ∃ b, V 3 = ptr b 0 ∧ Bl 3 = [⟨b, 316, cU 80 (fun _ => 0)⟩] := hR 3 (by decide)
  obtain ⟨b6, v4, B4⟩ : ∃ b, V 4 = ptr b 0 ∧ Bl 4 = [⟨b, 316, cU 80 (fun _ => 0)⟩] := hR 4 (by decide)
  have hb5 : w0.heap.size ≤ b5 := hN 3 (by decide) _ (by rw [B3]; exact List.mem_singleton.2 rfl)
  have hb6 : w0.heap.size ≤ b6 := hN 4 (by decide) _ (by rw [B4]; exact List.mem_singleton.2 rfl)
  replace hS := hS.to [(12, .agg (cU 80 rk).toArray), (14, .agg (cU 80 (schTo m 80)).toArray), (5, ptr b5 0), (6, ptr b6 0), (2, ptr b2 0), (3, ptr b3 0), (4, ptr b4 0)] ⟨congrArg some v0, congrArg some v2, congrArg some v3, congrArg some v4, rfl, rfl, rfl, trivial⟩
  replace hM := hM.congr (L' := ⟨b5, 316, cU 80 (fun _ => 0)⟩ :: ⟨b6, 316, cU 80 (fun _ => 0)⟩ :: [⟨b4, 193, cU 8 (fun _ => 0)⟩, ⟨b3, 253, cU 16 m⟩, ⟨b2, 193, cU 8 s⟩]) (by show (Bl 0 ++ (Bl 1 ++ (Bl 2 ++ (Bl 3 ++ (Bl 4 ++ []))))) ++ _ = _; rw [B0, B1, B2, B3, B4]; rfl)
  clear hR hN v0 v2 v3 v4 B0 B1 B2 B3 B4
  refine s_storeAll hS hM rfl rfl (j := 0) rfl sz316 cells_len cells_len cU_one ?_; clear hS hM; intro a w hS hM
  refine s_storeAll hS hM rfl rfl (j := 1) rfl sz316 cells_len cells_len cU_one ?_; clear hS hM; intro a w hS hM
  refine s_nil <| k_seq <| c_seq <| c_region ?_
  refine vg hS <| vv (r_loadAll · hM rfl (j := 4) rfl Tryz.underlying193 rfl sz193 cells_len) ?_; clear hS; intro a hS
  refine s_alloc hS hM (by decide) zero193 ?_; clear hS hM; intro a b7 w hb7 hS hM
  refine s_storeAll hS hM rfl rfl (j := 0) rfl sz193 cells_len cells_len cU_one ?_; clear hS hM; intro a w hS hM
  refine s_nil <| k_seq <| c_seq <| c_seq <| c_region ?_
  refine vg hS <| vv (r_move · (show ev _ _ = some (N 0) from rfl)) ?_; clear hS; intro a hS
  refine s_nil <| k_seq <| c_block ?_
  refine c_loop (σ := Nat) (fun k a w => (k ≤ 80) ∧ Slots a 86 (env [(2, ptr b2 0), (4, ptr b4 0), (5, ptr b5 0), (6, ptr b6 0), (7, ptr b7 0), (16, N k)]) ∧ Mem w0 w ([⟨b7, 193, cU 8 (rounds rk (schTo m 80) s k)⟩, ⟨b5, 316, cU 80 rk⟩, ⟨b6, 316, cU 80 (schTo m 80)⟩, ⟨b4, 193, cU 8 (fun _ => 0)⟩, ⟨b3, 253, cU 16 m⟩, ⟨b2, 193, cU 8 s⟩])) (fun k => 80 - k) (0) ⟨by omega, hS.to _ ⟨rfl, rfl, rfl, rfl, rfl, rfl, trivial⟩, hM⟩ ?_
  clear hS hM; rintro k a w ⟨hk, hS, hM⟩
  refine c_seq <| c_region ?_
  refine vg hS <| vv (r_bv · rfl (show ev _ _ = some (N 80) from rfl) gN (b_lssN _ _ _)) ?_; clear hS; intro a hS
  refine s_nil <| k_seq <| c_seq ?_
  refine c_cond hS rfl (fun hc => ?_) (fun hc => ?_)
  · have hk1 := of_decide_eq_true hc
    refine c_skip <| k_seq <| c_seq <| c_block <| c_seq <| c_region ?_
    refine vg hS <| vm rfl <| va rfl ?_; clear hS; intro a hS
    refine s_nil <| k_seq <| c_seq ?_
    refine c_plan 23 (fun w => Mem w0 w _) [(7, _), (8, _), (5, _), (6, _), (2, _), (4, _), (16, _), (17, _), (18, _)] (by kernel_rfl) (by kernel_rfl) hS ⟨rfl, rfl, rfl, rfl, rfl, rfl, rfl, rfl, rfl, trivial⟩ (hM.drawn _) ?_; clear hS hM
    refine pv rfl (fun hS _ => r_index0 hS rfl (show ev _ _ = some (.int .i64 ((7 : Nat) : Int)) from rfl) Tryz.underlying193 sz45 (by decide)) <| pv rfl (fun hS hM => r_load hS hM rfl (j := 0) rfl Tryz.underlying45 rfl (cells_get (by omega))) <| pv rfl (fun hS _ => r_index0 hS rfl (show ev _ _ = some (.int .i64 ((4 : Nat) : Int)) from rfl) Tryz.underlying193 sz45 (by decide)) <| pv rfl (fun hS hM => r_load hS hM rfl (j := 0) rfl Tryz.underlying45 rfl (cells_get (by omega))) ?_
    refine p_step rfl (fun a w hS hM => y_call (by kernel_rfl) hS (vs := [_, N 14, N 18, N 41]) rfl ((great_ok _ _ _ _ (by omega) _).mem hM)) ?_
    refine pv rfl (fun hS _ => r_bv hS rfl rfl gU (b_addU _ _ _)) <| pv rfl (fun hS _ => r_index0 hS rfl (show ev _ _ = some (.int .i64 ((4 : Nat) : Int)) from rfl) Tryz.underlying193 sz45 (by decide)) <| pv rfl (fun hS hM => r_load hS hM rfl (j := 0) rfl Tryz.underlying45 rfl (cells_get (by omega))) <| pv rfl (fun hS _ => r_index0 hS rfl (show ev _ _ = some (.int .i64 ((5 : Nat) : Int)) from rfl) Tryz.underlying193 sz45 (by decide)) <| pv rfl (fun hS hM => r_load hS hM rfl (j := 0) rfl Tryz.underlying45 rfl (cells_get (by omega))) <| pv rfl (fun hS _ => r_index0 hS rfl (show ev _ _ = some (.int .i64 ((6 : Nat) : Int)) from rfl) Tryz.underlying193 sz45 (by decide)) <| pv rfl (fun hS hM => r_load hS hM rfl (j := 0) rfl Tryz.underlying45 rfl (cells_get (by omega))) ?_
    refine p_step rfl (fun a w hS hM => y_call (by kernel_rfl) hS rfl ((ch_ok _ _ _ _).mem hM)) ?_
    refine pv rfl (fun hS _ => r_bv hS rfl rfl gU (b_addU _ _ _)) <| pv rfl (fun hS _ => r_move hS rfl) <| pv rfl (fun hS _ => r_index0 hS rfl rfl Tryz.underlying316 sz45 (by omega)) <| pv rfl (fun hS hM => r_load hS hM rfl (j := 1) rfl Tryz.underlying45 rfl (cells_get (by omega))) <| pv rfl (fun hS _ => r_bv hS rfl rfl gU (b_addU _ _ _)) <| pv rfl (fun hS _ => r_move hS rfl) <| pv rfl (fun hS _ => r_index0 hS rfl rfl Tryz.underlying316 sz45 (by omega)) <| pv rfl (fun hS hM => r_load hS hM rfl (j := 2) rfl Tryz.underlying45 rfl (cells_get (by omega))) <| pv rfl (fun hS _ => r_bv hS rfl rfl gU (b_addU _ _ _)) <| pv rfl (fun hS _ => r_assign hS rfl) ?_
    refine p_nil rfl ?_; intro a w hS hM
    refine s_nil <| k_seq <| c_seq ?_
    refine c_plan 12 (fun w => Mem w0 w _) [(7, _), (2, _), (4, _), (5, _), (6, _), (8, _), (9, _), (16, _), (17, _), (18, _), (19, _), (20, _), (21, _), (22, _), (23, _), (24, _), (25, _), (26, _), (27, _), (28, _), (29, _), (30, _), (31, _), (32, _), (33, _), (34, _), (35, _), (36, _), (37, _), (38, _), (39, _), (40, _)] (by kernel_rfl) (by kernel_rfl) hS ⟨rfl, rfl, rfl, rfl, rfl, rfl, rfl, rfl, rfl, rfl, rfl, rfl, rfl, rfl, rfl, rfl, rfl, rfl, rfl, rfl, rfl, rfl, rfl, rfl, rfl, rfl, rfl, rfl, rfl, rfl, rfl, rfl, trivial⟩ (hM.drawn _) ?_; clear hS hM
    refine pv rfl (fun hS _ => r_index0 hS rfl (show ev _ _ = some (.int .i64 ((0 : Nat) : Int)) from rfl) Tryz.underlying193 sz45 (by decide)) <| pv rfl (fun hS hM => r_load hS hM rfl (j := 0) rfl Tryz.underlying45 rfl (cells_get (by omega))) ?_
    refine p_step rfl (fun a w hS hM => y_call (by kernel_rfl) hS (vs := [_, N 28, N 34, N 39]) rfl ((great_ok _ _ _ _ (by omega) _).mem hM)) ?_
    refine pv rfl (fun hS _ => r_index0 hS rfl (show ev _ _ = some (.int .i64 ((0 : Nat) : Int)) from rfl) Tryz.underlying193 sz45 (by decide)) <| pv rfl (fun hS hM => r_load hS hM rfl (j := 0) rfl Tryz.underlying45 rfl (cells_get (by omega))) <| pv rfl (fun hS _ => r_index0 hS rfl (show ev _ _ = some (.int .i64 ((1 : Nat) : Int)) from rfl) Tryz.underlying193 sz45 (by decide)) <| pv rfl (fun hS hM => r_load hS hM rfl (j := 0) rfl Tryz.underlying45 rfl (cells_get (by omega))) <| pv rfl (fun hS _ => r_index0 hS rfl (show ev _ _ = some (.int .i64 ((2 : Nat) : Int)) from rfl) Tryz.underlying193 sz45 (by decide)) <| pv rfl (fun hS hM => r_load hS hM rfl (j := 0) rfl Tryz.underlying45 rfl (cells_get (by omega))) ?_
    refine p_step rfl (fun a w hS hM => y_call (by kernel_rfl) hS rfl ((maj_ok _ _ _ _).mem hM)) ?_
    refine pv rfl (fun hS _ => r_bv hS rfl rfl gU (b_addU _ _ _)) <| pv rfl (fun hS _ => r_assign hS rfl) ?_
    refine p_nil rfl ?_; intro a w hS hM
    refine s_nil <| k_seq <| c_region ?_
    refine vg hS <| vm rfl <| vm rfl <| vv (r_bv · rfl rfl gU (b_addU _ _ _)) <| vv (r_index0 · rfl (show ev _ _ = some (.int .i64 ((0 : Nat) : Int)) from rfl) Tryz.underlying193 sz45 (by decide)) <| vv (r_load · hM rfl (j := 0) rfl Tryz.underlying45 rfl (cells_get (by omega))) <| vv (r_index0 · rfl (show ev _ _ = some (.int .i64 ((1 : Nat) : Int)) from rfl) Tryz.underlying193 sz45 (by decide)) <| vv (r_load · hM rfl (j := 0) rfl Tryz.underlying45 rfl (cells_get (by omega))) <| vv (r_index0 · rfl (show ev _ _ = some (.int .i64 ((2 : Nat) : Int)) from rfl) Tryz.underlying193 sz45 (by decide)) <| vv (r_load · hM rfl (j := 0) rfl Tryz.underlying45 rfl (cells_get (by omega))) <| vv (r_index0 · rfl (show ev _ _ = some (.int .i64 ((3 : Nat) : Int)) from rfl) Tryz.underlying193 sz45 (by decide)) ?_; clear hS; intro a hS
    refine vg hS <| vv (r_load · hM rfl (j := 0) rfl Tryz.underlying45 rfl (cells_get (by omega))) <| vm rfl <| vv (r_bv · rfl rfl gU (b_addU _ _ _)) <| vv (r_index0 · rfl (show ev _ _ = some (.int .i64 ((4 : Nat) : Int)) from rfl) Tryz.underlying193 sz45 (by decide)) <| vv (r_load · hM rfl (j := 0) rfl Tryz.underlying45 rfl (cells_get (by omega))) <| vv (r_index0 · rfl (show ev _ _ = some (.int .i64 ((5 : Nat) : Int)) from rfl) Tryz.underlying193 sz45 (by decide)) <| vv (r_load · hM rfl (j := 0) rfl Tryz.underlying45 rfl (cells_get (by omega))) <| vv (r_index0 · rfl (show ev _ _ = some (.int .i64 ((6 : Nat) : Int)) from rfl) Tryz.underlying193 sz45 (by decide)) <| vv (r_load · hM rfl (j := 0) rfl Tryz.underlying45 rfl (cells_get (by omega))) <| vv (r_build · (vs := [(0, U _), (1, U _), (2, U _), (3, U _), (4, U _), (5, U _), (6, U _), (7, U _)]) rfl (build193 _ _ _ _ _ _ _ _)) ?_; clear hS; intro a hS
    refine s_storeAll hS hM rfl rfl (j := 0) rfl sz193 cells_len cells_len cU_one ?_; clear hS hM; intro a w hS hM
    refine s_nil <| k_in <| k_seq <| c_region ?_
    refine vg hS <| vv (r_bv · rfl (show ev _ _ = some (N 1) from rfl) gN (b_addN _ _ _ (by omega))) <| vm rfl ?_; clear hS; intro a hS
    refine s_nil <| k_then ?_
    refine ⟨k + 1, by omega, by omega, hS.to _ ⟨rfl, rfl, rfl, rfl, rfl, rfl, trivial⟩, hM⟩
  · obtain rfl : k = 80 := by have := of_decide_eq_false hc; omega
    refine c_exit <| k_thenx <| k_thenx <| k_inx <| k_seq <| c_seq <| c_seq <| c_region ?_
    refine vg hS <| vv (r_move · (show ev _ _ = some (N 0) from rfl)) ?_; clear hS; intro a hS
    refine s_nil <| k_seq <| c_block ?_
    refine c_loop (σ := Nat) (fun k a w => (k ≤ 8) ∧ Slots a 86 (env [(2, ptr b2 0), (4, ptr b4 0), (7, ptr b7 0), (73, N k)]) ∧ Mem w0 w ([⟨b7, 193, cU 8 (sumTo (rounds rk (schTo m 80) s 80) s k)⟩, ⟨b5, 316, cU 80 rk⟩, ⟨b6, 316, cU 80 (schTo m 80)⟩, ⟨b4, 193, cU 8 (fun _ => 0)⟩, ⟨b3, 253, cU 16 m⟩, ⟨b2, 193, cU 8 s⟩])) (fun k => 8 - k) (0) ⟨by omega, hS.to _ ⟨rfl, rfl, rfl, rfl, trivial⟩, hM⟩ ?_
    clear hS hM; rintro k a w ⟨hk, hS, hM⟩
    refine c_seq <| c_region ?_
    refine vg hS <| vv (r_bv · rfl (show ev _ _ = some (N 8) from rfl) gN (b_lssN _ _ _)) ?_; clear hS; intro a hS
    refine s_nil <| k_seq <| c_seq ?_
    refine c_cond hS rfl (fun hc => ?_) (fun hc => ?_)
    · have hk1 := of_decide_eq_true hc
      refine c_skip <| k_seq <| c_seq <| c_block <| c_seq <| c_region ?_
      refine vg hS <| vm rfl <| va rfl ?_; clear hS; intro a hS
      refine s_nil <| k_seq ?_
      refine c_plan 8 (fun w => Mem w0 w _) [(11, _), (7, _), (2, _), (4, _), (73, _), (74, _), (75, _)] (by kernel_rfl) (by kernel_rfl) hS ⟨rfl, rfl, rfl, rfl, rfl, rfl, rfl, trivial⟩ (hM.drawn _) ?_; clear hS hM
      refine pv rfl (fun hS _ => r_move hS rfl) <| pv rfl (fun hS _ => r_index0 hS rfl rfl Tryz.underlying193 sz45 (by omega)) <| pv rfl (fun hS hM => r_load hS hM rfl (j := 0) rfl Tryz.underlying45 rfl (cells_get (by omega))) <| pv rfl (fun hS _ => r_move hS rfl) <| pv rfl (fun hS _ => r_index0 hS rfl rfl Tryz.underlying193 sz45 (by omega)) <| pv rfl (fun hS hM => r_load hS hM rfl (j := 5) rfl Tryz.underlying45 rfl (cells_get (by omega))) <| pv rfl (fun hS _ => r_bv hS rfl rfl gU (b_addU _ _ _)) <| pv rfl (fun hS _ => r_index0 hS rfl rfl Tryz.underlying193 sz45 (by omega)) ?_
      refine p_nil rfl ?_; intro a w hS hM
      refine s_storeU hS hM rfl rfl (j := 0) rfl sz45 (by omega) ?_; clear hS hM; intro a w hS hM
      refine s_nil <| k_in <| k_seq <| c_region ?_
      refine vg hS <| vv (r_bv · rfl (show ev _ _ = some (N 1) from rfl) gN (b_addN _ _ _ (by omega))) <| vm rfl ?_; clear hS; intro a hS
      refine s_nil <| k_then ?_
      refine ⟨k + 1, by omega, by omega, hS.to _ ⟨rfl, rfl, rfl, rfl, trivial⟩, hM⟩
    · obtain rfl : k = 8 := by have := of_decide_eq_false hc; omega
      refine c_exit <| k_thenx <| k_thenx <| k_inx <| k_seq <| c_seq <| c_region ?_
      refine vg hS <| vv (r_loadAll · hM rfl (j := 0) rfl Tryz.underlying193 rfl sz193 cells_len) ?_; clear hS; intro a hS
      refine s_storeAll hS hM rfl rfl (j := 3) rfl sz193 cells_len cells_len cU_one ?_; clear hS hM; intro a w hS hM
      refine s_nil <| k_seq <| c_ret ?_
      exact k_res1 hS rfl (RV.row rfl (hM.have_ _ (mem_of_get (j := 3) rfl)) Tryz.underlying193 rfl (by rw [sz193]; exact congrArg some cells_len.symm)) ⟨rfl, hM.done ⟨hb7, hb5, hb6, hb4, hb3, hb2, trivial⟩⟩
end Go.Proofs.YtgmieahcpkcabaaGreat
namespace Go.Proofs.YtgmieahcpkcabaaGreat
open Go Go.Sym
def wd (m : Nat) (f : Nat → BitVec 8) : Nat → BitVec 64 := if m = 128 then wordsTo f 128 else fun _ => 0
theorem words_rd (w0 : World) {v : Value} {m : Nat} {f : Nat → BitVec 8} (hr : Rd w0 v m (fun i => B (f i))) : Pure Tryz.prog 178 #[v] w0 (.tuple #[.agg (cU 16 (wd m f)).toArray, .bool (decide (m = 128))]) := by
  by_cases hm : m = 128
  · subst hm
    obtain ⟨cap, hv, _⟩ := hr.at (i := 0) (by decide)
    rw [hv]
    exact words_ok w0 _ _ cap f (hr.lt (by decide)) (fun i hi => hr.get hi)
  · obtain ⟨ad, cap, rfl, _⟩ := hr
    unfold wd
    rw [if_neg hm, decide_eq_false hm]
    exact words_no w0 ad m cap hm
theorem wd_full (f : Nat → BitVec 8) : wd 128 f = wordsTo f 128 := if_pos rfl
end Go.Proofs.YtgmieahcpkcabaaGreat
