/-
  Functions that the model answers itself (an entry of its own), and sums of digits. No program is in sight here.
-/
import Derived.Test.YtbfiaoemoookcaaDoorSymSlice
import Derived.Laws.Externs
import Derived.Laws.MathBits
namespace Go.Sym
open Go Go.RowKit

section
variable {P : Program} {a : Act} {w : World} {n : Nat} {E : Nat → Option Value}
variable {dst : Option Nat} {ty : TypeId} {pos : String} {af : Array Edge} {g : Option (Nat × Bool)}

/-- A function without a body, which an entry of the model answers. -/
structure ExtOk (P : Program) (f : FuncId) (fn : Func) (e : Array Value → Sem Value) : Prop where
  hf : P.funcs[f]? = some fn
  hname : (fn.name == "runtime.NumGoroutine") = false
  hb : fn.body.isNone = true
  hn : Extern.findNext fn = none
  he : Extern.find fn = some e

theorem r_ext {f : FuncId} {fn : Func} {e : Array Value → Sem Value} {xs : List Operand} {ats : Array TypeId} {vs : List Value} {v : Value} (hE : ExtOk P f fn e) (hS : Slots a n E) (hx : evs E xs = some vs) (hr : (e vs.toArray).run P w = .ok v w) :
    Run P a ⟨dst, .call ⟨.value (.func f), xs.toArray, ats⟩, ty, pos, af, g⟩ w v := by
  have h := Slots.evals (xs := xs) hS hx
  have h' : Array.map a.eval xs.toArray = vs.toArray := by rw [← h]; simp
  have h2 := run_callFunc_extern hE.hf hE.hname hE.hb hE.hn hE.he vs.toArray w
  rw [hr] at h2
  unfold Run
  rw [execOp_call_go]
  simp only [Array.empty_append, Array.append_empty, h']
  exact h2

def addEntry : Array Value → Sem Value := fun args => do
  let (x, y, c) ← Extern.MathBitsCarry.three "Add64" args
  pure (Extern.MathBitsCarry.pair ((x + y + c) % Extern.MathBitsCarry.m64) ((x + y + c) / Extern.MathBitsCarry.m64))
def subEntry : Array Value → Sem Value := fun args => do
  let (x, y, b) ← Extern.MathBitsCarry.three "Sub64" args
  pure (Extern.MathBitsCarry.pair ((x + Extern.MathBitsCarry.m64 - y - b) % Extern.MathBitsCarry.m64) (if x < y + b then 1 else 0))

/-- What a sum of three carries. -/
def cout (x y c : BitVec 64) : BitVec 64 := BitVec.ofNat 64 ((x.toNat + y.toNat + c.toNat) / 18446744073709551616)
/-- What a difference borrows. -/
def bout (x y c : BitVec 64) : BitVec 64 := if x.toNat < y.toNat + c.toNat then 1#64 else 0#64

theorem run_add (x y c : BitVec 64) (hc : c.toNat ≤ 1) : (addEntry [U x, U y, U c].toArray).run P w = .ok (.tuple #[U (x + y + c), U (cout x y c)]) w := by
  have key : ∀ k : Nat, k ≤ 1 → (addEntry [U x, U y, .int .u64 (k : Int)].toArray).run P w = .ok (Extern.MathBitsCarry.pair ((x.toNat + y.toNat + k) % Extern.MathBitsCarry.m64) ((x.toNat + y.toNat + k) / Extern.MathBitsCarry.m64)) w := by
    intro k hk
    have : k = 0 ∨ k = 1 := by omega
    rcases this with rfl | rfl <;> rfl
  rw [show U c = .int .u64 ((c.toNat : Nat) : Int) from rfl, key c.toNat hc]
  have h1 : (x + y + c).toNat = (x.toNat + y.toNat + c.toNat) % 18446744073709551616 := by simp only [BitVec.toNat_add]; omega
  have h2 : (cout x y c).toNat = (x.toNat + y.toNat + c.toNat) / 18446744073709551616 := by unfold cout; rw [BitVec.toNat_ofNat]; omega
  simp only [U, h1, h2]
  rfl

theorem run_sub (x y c : BitVec 64) (hc : c.toNat ≤ 1) : (subEntry [U x, U y, U c].toArray).run P w = .ok (.tuple #[U (x - y - c), U (bout x y c)]) w := by
  have key : ∀ k : Nat, k ≤ 1 → (subEntry [U x, U y, .int .u64 (k : Int)].toArray).run P w = .ok (Extern.MathBitsCarry.pair ((x.toNat + Extern.MathBitsCarry.m64 - y.toNat - k) % Extern.MathBitsCarry.m64) (if x.toNat < y.toNat + k then 1 else 0)) w := by
    intro k hk
    have : k = 0 ∨ k = 1 := by omega
    rcases this with rfl | rfl <;> rfl
  rw [show U c = .int .u64 ((c.toNat : Nat) : Int) from rfl, key c.toNat hc]
  have h1 : (x - y - c).toNat = (x.toNat + 18446744073709551616 - y.toNat - c.toNat) % 18446744073709551616 := by simp only [BitVec.toNat_sub]; omega
  have h2 : (bout x y c).toNat = if x.toNat < y.toNat + c.toNat then 1 else 0 := by unfold bout; split <;> rfl
  simp only [U, h1, h2]
  rfl
theorem cout_le (x y c : BitVec 64) (hc : c.toNat ≤ 1) : (cout x y c).toNat ≤ 1 := by unfold cout; rw [BitVec.toNat_ofNat]; omega
theorem bout_le (x y c : BitVec 64) : (bout x y c).toNat ≤ 1 := by unfold bout; split <;> decide

theorem cv_IN (x : BitVec 64) (h : 0 ≤ x.toInt) : Value.int .i64 (IntKind.i64.wrap x.toInt) = N x.toNat := by
  have h1 := @BitVec.toInt_lt 64 x
  have h2 : x.toInt = (x.toNat : Int) := by rw [BitVec.toInt_eq_toNat_cond] at h ⊢; split at h <;> omega
  rw [h2, wrapN _ (by rw [h2] at h1; omega)]; rfl
theorem cv_NI (m : Nat) : Value.int .i64 (IntKind.i64.wrap (m : Int)) = I (BitVec.ofNat 64 m) := by rw [wrapI, BitVec.ofInt_natCast]; rfl

/-- the product of two numbers of 64 bits: its upper half, as Go's own text reckons it -/
def mulHi (x y : BitVec 64) : BitVec 64 :=
  let x0 := x &&& 4294967295#64; let x1 := x >>> 32; let y0 := y &&& 4294967295#64; let y1 := y >>> 32
  let t := x1 * y0 + (x0 * y0) >>> 32
  x1 * y1 + t >>> 32 + ((t &&& 4294967295#64) + x0 * y1) >>> 32
theorem low32 (x : BitVec 64) : (x &&& 4294967295#64).toNat = x.toNat % 4294967296 := by
  rw [BitVec.toNat_and]
  exact Nat.and_two_pow_sub_one_eq_mod _ 32
theorem mulHi_toNat (x y : BitVec 64) : (mulHi x y).toNat = x.toNat * y.toNat / 18446744073709551616 := by
  have h := mul64_arith (x.toNat : Int) (y.toNat : Int) (by omega) (by have := x.isLt; omega) (by omega) (by have := y.isLt; omega)
  unfold mulHi
  simp only [BitVec.toNat_add, BitVec.toNat_mul, BitVec.toNat_ushiftRight, Nat.shiftRight_eq_div_pow, low32]
  have : ((x.toNat * y.toNat / 18446744073709551616 : Nat) : Int) = (x.toNat : Int) * (y.toNat : Int) / 18446744073709551616 := by simp
  generalize x.toNat * y.toNat / 18446744073709551616 = q at this ⊢
  rw [← this] at h
  have h3 : ∀ a b c d : Nat, (a : Int) * (b : Int) = ((a * b : Nat) : Int) := fun a b _ _ => by simp
  refine Int.ofNat.inj ?_
  show ((_ : Nat) : Int) = ((q : Nat) : Int)
  rw [← h]
  simp only [Int.natCast_add, Int.natCast_mul, Int.natCast_emod, Int.natCast_ediv]
  rfl
theorem mul_split (x y : BitVec 64) : (mulHi x y).toNat * 18446744073709551616 + (x * y).toNat = x.toNat * y.toNat := by
  rw [mulHi_toNat, BitVec.toNat_mul]
  have := Nat.div_add_mod (x.toNat * y.toNat) 18446744073709551616
  omega
end
end Go.Sym
