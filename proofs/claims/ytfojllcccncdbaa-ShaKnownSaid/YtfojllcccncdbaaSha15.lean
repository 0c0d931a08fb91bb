/-
  The known texts: strings as bytes, the sum in hexadecimal digits. No program is in sight here.
-/
import Derived.Test.YtfojllcccncdbaaSha11
import Derived.Test.YtfojllcccncdbaaSymStr
namespace Go.Sym
open Go Go.RowKit

def kt0 : List UInt8 := []
def kw0 : List UInt8 := [99, 102, 56, 51, 101, 49, 51, 53, 55, 101, 101, 102, 98, 56, 98, 100, 102, 49, 53, 52, 50, 56, 53, 48, 100, 54, 54, 100, 56, 48, 48, 55, 100, 54, 50, 48, 101, 52, 48, 53, 48, 98, 53, 55, 49, 53, 100, 99, 56, 51, 102, 52, 97, 57, 50, 49, 100, 51, 54, 99, 101, 57, 99, 101, 52, 55, 100, 48, 100, 49, 51, 99, 53, 100, 56, 53, 102, 50, 98, 48, 102, 102, 56, 51, 49, 56, 100, 50, 56, 55, 55, 101, 101, 99, 50, 102, 54, 51, 98, 57, 51, 49, 98, 100, 52, 55, 52, 49, 55, 97, 56, 49, 97, 53, 51, 56, 51, 50, 55, 97, 102, 57, 50, 55, 100, 97, 51, 101]
def kt1 : List UInt8 := [97, 98, 99]
def kw1 : List UInt8 := [100, 100, 97, 102, 51, 53, 97, 49, 57, 51, 54, 49, 55, 97, 98, 97, 99, 99, 52, 49, 55, 51, 52, 57, 97, 101, 50, 48, 52, 49, 51, 49, 49, 50, 101, 54, 102, 97, 52, 101, 56, 57, 97, 57, 55, 101, 97, 50, 48, 97, 57, 101, 101, 101, 101, 54, 52, 98, 53, 53, 100, 51, 57, 97, 50, 49, 57, 50, 57, 57, 50, 97, 50, 55, 52, 102, 99, 49, 97, 56, 51, 54, 98, 97, 51, 99, 50, 51, 97, 51, 102, 101, 101, 98, 98, 100, 52, 53, 52, 100, 52, 52, 50, 51, 54, 52, 51, 99, 101, 56, 48, 101, 50, 97, 57, 97, 99, 57, 52, 102, 97, 53, 52, 99, 97, 52, 57, 102]
def kt2 : List UInt8 := [97, 98, 99, 100, 101, 102, 103, 104, 98, 99, 100, 101, 102, 103, 104, 105, 99, 100, 101, 102, 103, 104, 105, 106, 100, 101, 102, 103, 104, 105, 106, 107, 101, 102, 103, 104, 105, 106, 107, 108, 102, 103, 104, 105, 106, 107, 108, 109, 103, 104, 105, 106, 107, 108, 109, 110, 104, 105, 106, 107, 108, 109, 110, 111, 105, 106, 107, 108, 109, 110, 111, 112, 106, 107, 108, 109, 110, 111, 112, 113, 107, 108, 109, 110, 111, 112, 113, 114, 108, 109, 110, 111, 112, 113, 114, 115, 109, 110, 111, 112, 113, 114, 115, 116, 110, 111, 112, 113, 114, 115, 116, 117]
def kw2 : List UInt8 := [56, 101, 57, 53, 57, 98, 55, 53, 100, 97, 101, 51, 49, 51, 100, 97, 56, 99, 102, 52, 102, 55, 50, 56, 49, 52, 102, 99, 49, 52, 51, 102, 56, 102, 55, 55, 55, 57, 99, 54, 101, 98, 57, 102, 55, 102, 97, 49, 55, 50, 57, 57, 97, 101, 97, 100, 98, 54, 56, 56, 57, 48, 49, 56, 53, 48, 49, 100, 50, 56, 57, 101, 52, 57, 48, 48, 102, 55, 101, 52, 51, 51, 49, 98, 57, 57, 100, 101, 99, 52, 98, 53, 52, 51, 51, 97, 99, 55, 100, 51, 50, 57, 101, 101, 98, 54, 100, 100, 50, 54, 53, 52, 53, 101, 57, 54, 101, 53, 53, 98, 56, 55, 52, 98, 101, 57, 48, 57]
def kt : Nat → List UInt8 := sel kt0 kt1 kt2
def kw : Nat → List UInt8 := sel kw0 kw1 kw2
def hexd : List UInt8 := [48, 49, 50, 51, 52, 53, 54, 55, 56, 57, 97, 98, 99, 100, 101, 102]
/-- The bytes of a string. -/
def fl (l : List UInt8) (j : Nat) : BitVec 8 := BitVec.ofNat 8 (l.getD j 0).toNat
def hx (x : BitVec 8) : UInt8 := hexd.getD x.toNat 0
def hexTo (D : Nat → BitVec 8) : Nat → List UInt8
  | 0 => []
  | k + 1 => (hexTo D k ++ [hx (D k >>> 4)]) ++ [hx (D k &&& 15#8)]
theorem hexTo_len (D : Nat → BitVec 8) : ∀ k, (hexTo D k).length = 2 * k
  | 0 => rfl
  | k + 1 => by
    show ((hexTo D k ++ [hx (D k >>> 4)]) ++ [hx (D k &&& 15#8)]).length = _
    rw [List.length_append, List.length_append, hexTo_len D k]; rfl
theorem hexTo_congr {D D' : Nat → BitVec 8} : ∀ {k : Nat}, (∀ i, i < k → D i = D' i) → hexTo D k = hexTo D' k
  | 0, _ => rfl
  | k + 1, h => by
    show (hexTo D k ++ [hx (D k >>> 4)]) ++ [hx (D k &&& 15#8)] = (hexTo D' k ++ [hx (D' k >>> 4)]) ++ [hx (D' k &&& 15#8)]
    rw [hexTo_congr (k := k) (fun i hi => h i (by omega)), h k (by omega)]
theorem hi_lt (x : BitVec 8) : (x >>> 4).toNat < 16 := by
  rw [BitVec.toNat_ushiftRight, Nat.shiftRight_eq_div_pow]
  have := x.isLt
  omega
theorem lo_lt (x : BitVec 8) : (x &&& 15#8).toNat < 16 := by
  rw [BitVec.toNat_and]
  exact Nat.lt_of_le_of_lt Nat.and_le_right (by decide)
theorem hexd_at : ∀ n, n < 16 → (hexd.drop n).take 1 = [hexd.getD n 0] := by decide
theorem closed_congr {f g : Nat → BitVec 8} {m n : Nat} (h : ∀ i, i < m → f i = g i) : closed f m n = closed g m n := by
  unfold closed cat
  funext i
  split
  · exact h i (by assumption)
  · rfl
theorem kt_len : ∀ i, i < 3 → (kt i).length < 1000 := by decide
theorem kw_len : ∀ i, i < 3 → (kw i).length = 128 := by decide +kernel
theorem known0 : hexTo (flatB (HS.zero.puts (fl kt0) 0).sum.s) 64 = kw0 := by
  have h0 : closed (fl kt0) 0 0 = closed tx0 0 0 := closed_congr (by decide +kernel)
  have h1 : (HS.zero.puts (fl kt0) 0).sum.s = ovr iv (closed tx0 0 0) 1 := by
    rw [of_sum, h0]; rfl
  rw [h1, hexTo_congr (flat_like tx0_s0)]
  decide +kernel
theorem known1 : hexTo (flatB (HS.zero.puts (fl kt1) 3).sum.s) 64 = kw1 := by
  have h0 : closed (fl kt1) 3 3 = closed tx1 3 3 := closed_congr (by decide +kernel)
  have h1 : (HS.zero.puts (fl kt1) 3).sum.s = ovr iv (closed tx1 3 3) 1 := by
    rw [of_sum, h0]; rfl
  rw [h1, hexTo_congr (flat_like tx1_s0)]
  decide +kernel
theorem known2 : hexTo (flatB (HS.zero.puts (fl kt2) 112).sum.s) 64 = kw2 := by
  have h0 : closed (fl kt2) 112 112 = closed tx2 112 112 := closed_congr (by decide +kernel)
  have h1 : (HS.zero.puts (fl kt2) 112).sum.s = ovr iv (closed tx2 112 112) 2 := by
    rw [of_sum, h0]; rfl
  rw [h1, hexTo_congr (flat_like tx2_s1)]
  decide +kernel
theorem known_at : ∀ i, i < 3 → hexTo (flatB (HS.zero.puts (fl (kt i)) (kt i).length).sum.s) 64 = kw i
  | 0, _ => known0
  | 1, _ => known1
  | 2, _ => known2
section
variable {P : Program} {Q : Exit → Act → World → Prop} {a : Act} {w w0 : World} {n : Nat} {E : Nat → Option Value} {L : List Blk} {ops : Array Oper} {rest : List Oper}
variable {dst : Option Nat} {ty : TypeId} {pos : String} {af : Array Edge} {g : Option (Nat × Bool)}
theorem r_hex {t : TypeId} {x lo hi : Operand} {c : BitVec 8} (hS : Slots a n E) (hx' : ev E x = some (SV hexd)) (hlo : ev E lo = some (B c)) (hhi : ev E hi = some (B (c + 1#8))) (hT : P.underlying t = some .string) (hc : c.toNat < 16) :
    Run P a ⟨dst, .slice t x (some lo) (some hi) none, ty, pos, af, g⟩ w (SV [hx c]) := by
  have e : (c + 1#8).toNat = c.toNat + 1 := by rw [BitVec.toNat_add]; show (c.toNat + 1) % 256 = _; omega
  have := r_sliceS (P := P) (w := w) (dst := dst) (ty := ty) (pos := pos) (af := af) (g := g) (i := c.toNat) (j := (c + 1#8).toNat) hS hx' hlo hhi hT (by omega) (by rw [e]; show c.toNat + 1 ≤ 16; omega)
  rw [e, show c.toNat + 1 - c.toNat = 1 by omega, hexd_at _ hc] at this
  exact this
theorem row3t {j b : Nat} {t : TypeId} {x y z : List UInt8} (hM : Mem w0 w L) (hj : L[j]? = some ⟨b, t, [SV x, SV y, SV z]⟩) : Rd w (.slice (some ⟨b, 0, none⟩) 3 3) 3 (fun i => SV (sel x y z i)) := rd_row (m := 3) (F := fun i => SV (sel x y z i)) hM hj
/-- New things that are not told. -/
theorem Mem.grown {w' : World} (hM : Mem w0 w L) (o : Obj) (h : w' = w.drew.alloc o) : Mem w0 w' L := by
  subst h
  have hsz : (w.drew.alloc o).heap.size = w.heap.size + 1 := World.size_alloc ..
  have hk : ∀ k, k < w.heap.size → (w.drew.alloc o).heap[k]? = w.heap[k]? := fun k hk => by
    show (w.heap.push o)[k]? = _
    rw [Array.getElem?_push, if_neg (by omega)]
  exact ⟨hM.os, hM.tape, hM.output, by rw [hsz]; have := hM.size; omega, fun k h1 h2 => by rw [hk k (by have := hM.size; omega)]; exact hM.old k h1 h2, fun e he => by rw [hk _ (hM.lt he)]; exact hM.have_ e he, hM.nodup⟩
/-- A string as a new slice of bytes; the slice's own block is not told, only that it can be read. -/
theorem s_convB {s t e : TypeId} {d : Nat} {x : Operand} {l : List UInt8} (hS : Slots a n E) (hM : Mem w0 w L) (hd : d < n) (hx' : ev E x = some (SV l)) (hs : P.underlying s = some .string) (ht : P.underlying t = some (.slice e)) (he : P.underlying e = some (.int .u8))
    (h : ∀ a w v, Rd w v l.length (fun j => B (fl l j)) → Slots a n (put E d v) → Mem w0 w L → wpList P ops Q rest a w) : wpList P ops Q (⟨some d, .convert s t x, ty, pos, af, none⟩ :: rest) a w := by
  have hr := run_bytes_of_string (P := P) w s t e ⟨l.toArray⟩ hs ht he
  refine s_op (v := .slice (some ⟨w.heap.size, 0, none⟩) (ByteArray.mk l.toArray).size (grownCap w (ByteArray.mk l.toArray).size 0 e)) hS hd rfl rfl (by simp only [execOp, hS.eval hx']; unfold SV; simp [hr]; exact rfl) (fun a hS => h a _ _ ?_ hS (hM.grown _ rfl))
  refine ⟨some ⟨w.heap.size, 0, none⟩, _, rfl, grownCap_ge .., fun e => (by cases e), fun x hx i hi => ?_⟩
  cases hx
  refine ⟨rfl, ?_⟩
  show (w.drew.alloc _).cell? ⟨w.drew.heap.size, 0 + i, none⟩ = _
  rw [World.cell?_alloc_mark, Nat.zero_add]
  unfold bytesRow
  rw [Array.getElem?_append_left (by simp; exact hi)]
  simp [hi, fl, B]
end
end Go.Sym
