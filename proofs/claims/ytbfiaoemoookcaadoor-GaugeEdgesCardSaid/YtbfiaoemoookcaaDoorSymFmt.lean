/-
  Natural numbers as words of 64 and of 32 bits; strings: places, lengths, parts with open ends. No program is in sight here.
-/
import Derived.Test.YtbfiaoemoookcaaDoorSymFloat
namespace Go.Sym
open Go Go.RowKit

def X (n : Nat) : Value := .int .u64 (n : Int)
def Y (n : Nat) : Value := .int .u32 (n : Int)
theorem wrapX (n : Nat) (h : n < 18446744073709551616) : IntKind.u64.wrap (n : Int) = (n : Int) := by
  rw [wrapU, BitVec.ofInt_natCast, BitVec.toNat_ofNat, Nat.mod_eq_of_lt h]
theorem wrapY (n : Nat) (h : n < 4294967296) : IntKind.u32.wrap (n : Int) = (n : Int) := by
  rw [wrapW, BitVec.ofInt_natCast, BitVec.toNat_ofNat, Nat.mod_eq_of_lt h]
theorem X_U (n : Nat) (h : n < 18446744073709551616) : X n = U (BitVec.ofNat 64 n) := by unfold X U; rw [BitVec.toNat_ofNat, Nat.mod_eq_of_lt h]
theorem gX {op : BinOp} {t : TypeId} {x y : Operand} {u : Nat} : ∀ v, eqGuard op t x y (X u) v = pure () := fun _ => eqGuard_at_int ..
theorem gY {op : BinOp} {t : TypeId} {x y : Operand} {u : Nat} : ∀ v, eqGuard op t x y (Y u) v = pure () := fun _ => eqGuard_at_int ..
theorem div_nat (x y : Nat) : (x : Int).tdiv (y : Int) = ((x / y : Nat) : Int) := by rw [Int.tdiv_eq_ediv_of_nonneg (by omega)]; simp
theorem mod_nat (x y : Nat) : (x : Int).tmod (y : Int) = ((x % y : Nat) : Int) := by rw [Int.tmod_eq_emod_of_nonneg (by omega)]; simp
theorem b_quoX (t : TypeId) (x y : Nat) (h : 0 < y) (hx : x < 18446744073709551616) : binOp .quo t (X x) (X y) = pure (X (x / y)) := by
  unfold X
  rw [binOp_quo]; unfold Op.intDiv
  rw [if_neg (show ¬ ((y : Int) = 0) by omega)]
  simp only
  rw [div_nat, wrapX _ (Nat.lt_of_le_of_lt (Nat.div_le_self _ _) hx)]
theorem b_quoY (t : TypeId) (x y : Nat) (h : 0 < y) (hx : x < 4294967296) : binOp .quo t (Y x) (Y y) = pure (Y (x / y)) := by
  unfold Y
  rw [binOp_quo]; unfold Op.intDiv
  rw [if_neg (show ¬ ((y : Int) = 0) by omega)]
  simp only
  rw [div_nat, wrapY _ (Nat.lt_of_le_of_lt (Nat.div_le_self _ _) hx)]
theorem b_remX (t : TypeId) (x y : Nat) (h : 0 < y) : binOp .rem t (X x) (X y) = pure (X (x % y)) := by
  unfold X
  rw [binOp_rem]; unfold Op.intDiv
  rw [if_neg (show ¬ ((y : Int) = 0) by omega)]
  simp only
  rw [mod_nat]
theorem b_remY (t : TypeId) (x y : Nat) (h : 0 < y) : binOp .rem t (Y x) (Y y) = pure (Y (x % y)) := by
  unfold Y
  rw [binOp_rem]; unfold Op.intDiv
  rw [if_neg (show ¬ ((y : Int) = 0) by omega)]
  simp only
  rw [mod_nat]
theorem b_mulY (t : TypeId) (x y : Nat) (h : x * y < 4294967296) : binOp .mul t (Y x) (Y y) = pure (Y (x * y)) := by
  unfold Y
  rw [binOp_mul]; unfold Op.intArith
  simp only
  rw [show (x : Int) * (y : Int) = ((x * y : Nat) : Int) by simp, wrapY _ h]
theorem b_addY (t : TypeId) (x y : Nat) (h : x + y < 4294967296) : binOp .add t (Y x) (Y y) = pure (Y (x + y)) := by
  unfold Y
  rw [binOp_add]; unfold Op.intArith
  simp only
  rw [show (x : Int) + (y : Int) = ((x + y : Nat) : Int) by simp, wrapY _ h]
theorem b_lssX (t : TypeId) (x y : Nat) : binOp .lss t (X x) (X y) = pure (.bool (decide (x < y))) := by
  unfold X; rw [binOp_lss]; congr 2; exact decide_eq_decide.2 (by omega)
theorem b_geqX (t : TypeId) (x y : Nat) : binOp .geq t (X x) (X y) = pure (.bool (decide (y ≤ x))) := by
  unfold X; rw [binOp_geq]; congr 2; exact decide_eq_decide.2 (by omega)
theorem b_shrX (t : TypeId) (x m D : Nat) (hD : 2 ^ m = D) (hx : x < 18446744073709551616) : binOp .shr t (X x) (.int .u64 (m : Int)) = pure (X (x / D)) := by
  subst hD
  rw [X_U x hx, b_shrU t _ .u64 m]
  unfold U X
  congr 2
  rw [BitVec.toNat_ushiftRight, BitVec.toNat_ofNat, Nat.mod_eq_of_lt hx, Nat.shiftRight_eq_div_pow]
theorem b_shrN (t : TypeId) (x m D : Nat) (hD : 2 ^ m = D) (hm : m ≤ 63) : binOp .shr t (N x) (.int .u64 (m : Int)) = pure (N (x / D)) := by
  subst hD
  unfold N
  rw [binOp_shr]
  unfold Op.shift
  rw [if_neg (show ¬ ((m : Int) < 0) by omega)]
  simp only [Int.toNat_natCast]
  rw [fdiv_pow_nat, show min m IntKind.i64.bits = m from Nat.min_eq_left (by show m ≤ 64; omega)]
theorem cv_XN (n : Nat) (h : n < 9223372036854775808) : Value.int .i64 (IntKind.i64.wrap (n : Int)) = N n := by rw [wrapN _ h]; rfl
theorem cv_XY (n : Nat) (h : n < 4294967296) : Value.int .u32 (IntKind.u32.wrap (n : Int)) = Y n := by rw [wrapY _ h]; rfl
theorem cv_NX (n : Nat) (h : n < 18446744073709551616) : Value.int .u64 (IntKind.u64.wrap (n : Int)) = X n := by rw [wrapX _ h]; rfl
theorem cv_BN' (v : Nat) (h : v < 256) : Value.int .i64 (IntKind.i64.wrap ((BitVec.ofNat 8 v).toNat : Int)) = N v := by rw [BitVec.toNat_ofNat, Nat.mod_eq_of_lt h, wrapN _ (by omega)]; rfl
theorem cv_YB (n : Nat) : Value.int .u8 (IntKind.u8.wrap (n : Int)) = B (BitVec.ofNat 8 n) := by rw [wrapB, BitVec.ofInt_natCast]; rfl
theorem cv_XB (n : Nat) : Value.int .u8 (IntKind.u8.wrap (n : Int)) = B (BitVec.ofNat 8 n) := cv_YB n

section
variable {P : Program} {Q : Exit → Act → World → Prop} {a : Act} {w w0 : World} {n : Nat} {E : Nat → Option Value} {L Lx : List Blk} {ops : Array Oper} {rest : List Oper}
variable {dst : Option Nat} {ty : TypeId} {pos : String} {af : Array Edge} {g : Option (Nat × Bool)}
/-- A place of a string. -/
theorem r_idxS {t : TypeId} {x y : Operand} {l : List UInt8} {k : IntKind} {i : Nat} {c : BitVec 8} (hS : Slots a n E) (hx : ev E x = some (SV l)) (hy : ev E y = some (.int k (i : Int))) (hT : P.underlying t = some .string)
    (hc : l[i]?.map UInt8.toBitVec = some c) : Run P a ⟨dst, .index t x y, ty, pos, af, g⟩ w (B c) := by
  obtain ⟨u, hu, rfl⟩ := Option.map_eq_some_iff.1 hc
  obtain ⟨h, e⟩ := List.getElem?_eq_some_iff.1 hu
  have h' : (0 : Int) ≤ (i : Int) ∧ (i : Int) < ((⟨l.toArray⟩ : ByteArray).size : Int) := ⟨by omega, by show (i : Int) < (l.toArray.size : Int); rw [List.size_toArray]; omega⟩
  have := run_index_string (P := P) w t ⟨l.toArray⟩ k i hT
  rw [dif_pos h'] at this
  have e2 : ((⟨l.toArray⟩ : ByteArray)[(i : Int).toNat]'(by have := h'.2; omega)) = u := e
  rw [e2] at this
  simp only [Run, execOp, hS.eval hx, hS.eval hy, SV]
  simp [this]
  rfl
theorem r_lenS {t : TypeId} {x : Operand} {l : List UInt8} (hS : Slots a n E) (hx : ev E x = some (SV l)) (hT : P.underlying t = some .string) : Run P a ⟨dst, .call ⟨.builtin .len, #[x], #[t]⟩, ty, pos, af, g⟩ w (N l.length) := by
  have hsz : (⟨l.toArray⟩ : ByteArray).size = l.length := List.size_toArray ..
  simp [Run, execOp, resolve, invoke, builtin, hS.eval hx, Builtin.len_, run_underlying hT, N, goInt, SV, hsz]
/-- A part of a string. -/
theorem r_partS {t : TypeId} {x : Operand} {lo hi : Option Operand} {l : List UInt8} {i j : Nat} (hS : Slots a n E) (hx : ev E x = some (SV l)) (hlo : Bnd E lo 0 i) (hhi : Bnd E hi l.length j)
    (hT : P.underlying t = some .string) (h1 : i ≤ j) (h2 : j ≤ l.length) : Run P a ⟨dst, .slice t x lo hi none, ty, pos, af, g⟩ w (SV ((l.drop i).take (j - i))) := by
  have hb := run_bounds (P := P) (w := w) (isS := false) (cap := l.length) hS hlo hhi h1 h2
  have hsz : (⟨l.toArray⟩ : ByteArray).size = l.length := List.size_toArray ..
  simp [Run, execOp, hS.eval hx, SV, Instr.sliceAt, run_underlying hT, Instr.slice, hsz, hb, ByteArray.extract_mk]
/-- The front of an array. -/
theorem r_sliceF {t el : TypeId} {x y : Operand} {b len h : Nat} {k : IntKind} (hS : Slots a n E) (hx : ev E x = some (ptr b 0)) (hy : ev E y = some (.int k (h : Int))) (hT : P.underlying t = some (.array len el)) (hs : (P.info? el).map (·.size) = some 1)
    (hh : h ≤ len) (h0 : 0 ≠ len) : Run P a ⟨dst, .slice t x none (some y) none, ty, pos, af, g⟩ w (.slice (some ⟨b, 0, none⟩) h len) := by
  have := r_sliceA (P := P) (w := w) (dst := dst) (ty := ty) (pos := pos) (af := af) (g := g) (lo := none) (hi := some y) hS hx hT hs rfl ⟨k, hy⟩ (Nat.zero_le _) hh
  rwa [slc_some h0] at this
/-- The powers of ten that the program keeps. -/
structure PW (w : World) : Prop where
  lt : 1 < w.heap.size
  get : ∀ i, i < 20 → w.cell? ⟨1, i, none⟩ = some (X (10 ^ i))
theorem PW.keep (h : PW w0) (hM : Mem w0 w L) (hg : allGe w0.heap.size L) : PW w where
  lt := Nat.lt_of_lt_of_le h.lt hM.size
  get i hi := by rw [hM.outer (a := ⟨1, i, none⟩) h.lt (fun e he => by have h1 := allGe_spec hg e he; have h2 := h.lt; show e.b ≠ 1; omega)]; exact h.get i hi
end
end Go.Sym
