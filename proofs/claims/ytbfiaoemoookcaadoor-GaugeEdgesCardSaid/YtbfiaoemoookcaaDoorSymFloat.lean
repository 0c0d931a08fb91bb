/-
  Floats of 64 bits: comparisons, arithmetic (with a result that may be no number, its bits drawn), conversions; calls that return some value of which a relation tells.
-/
import Derived.Test.YtbfiaoemoookcaaDoorSymStr
import Derived.Laws.FloatArith
namespace Go.Sym
open Go Go.RowKit

def F (b : BitVec 64) : Value := .float .f64 b.toNat
/-- How two words stand. -/
def fo (a b : BitVec 64) : Option Ordering := Ieee.double.order a.toNat b.toNat
/-- The word is no number. -/
def nanN (b : Nat) : Bool := (Ieee.double.read b).isNaN
def nanB (b : BitVec 64) : Bool := nanN b.toNat
/-- What an operation on floats may give. -/
def FR (op : BinOp) (x y r : BitVec 64) : Prop := match floatBits op .f64 x.toNat y.toNat with
  | some r' => r.toNat = r'
  | none => nanB r = true

section
variable {P : Program} {Q : Exit → Act → World → Prop} {a : Act} {w w0 : World} {n : Nat} {E : Nat → Option Value} {L Lx : List Blk} {ops : Array Oper} {rest : List Oper}
variable {dst : Option Nat} {ty : TypeId} {pos : String} {af : Array Edge} {g : Option (Nat × Bool)}
theorem gF {op : BinOp} {t : TypeId} {x y : Operand} {u : BitVec 64} : ∀ v, eqGuard op t x y (F u) v = pure () := fun _ => eqGuard_at_float ..
theorem b_eqlF (t : TypeId) (x y : BitVec 64) : binOp .eql t (F x) (F y) = pure (.bool (fo x y == some .eq)) := binOp_float_cmp_eql ..
theorem b_neqF (t : TypeId) (x y : BitVec 64) : binOp .neq t (F x) (F y) = pure (.bool (fo x y != some .eq)) := binOp_float_cmp_neq ..
theorem b_lssF (t : TypeId) (x y : BitVec 64) : binOp .lss t (F x) (F y) = pure (.bool (fo x y == some .lt)) := binOp_float_cmp_lss ..
theorem b_leqF (t : TypeId) (x y : BitVec 64) : binOp .leq t (F x) (F y) = pure (.bool (fo x y == some .lt || fo x y == some .eq)) := binOp_float_cmp_leq ..
theorem b_gtrF (t : TypeId) (x y : BitVec 64) : binOp .gtr t (F x) (F y) = pure (.bool (fo x y == some .gt)) := binOp_float_cmp_gtr ..
theorem b_geqF (t : TypeId) (x y : BitVec 64) : binOp .geq t (F x) (F y) = pure (.bool (fo x y == some .gt || fo x y == some .eq)) := binOp_float_cmp_geq ..
theorem nan_word (x y t : Nat) : nanN (Question.cut (.nanBits .f64 x y) t) = true ∧ Question.cut (.nanBits .f64 x y) t < 18446744073709551616 := by
  show nanN ((t % 2) * 2 ^ 63 + 0x7ff0000000000000 + 1 + (t / 2) % (2 ^ 52 - 1)) = true ∧ (t % 2) * 2 ^ 63 + 0x7ff0000000000000 + 1 + (t / 2) % (2 ^ 52 - 1) < 18446744073709551616
  have h1 : t % 2 < 2 := Nat.mod_lt _ (by decide)
  have h2 : t / 2 % (2 ^ 52 - 1) < 2 ^ 52 - 1 := Nat.mod_lt _ (by decide)
  generalize t % 2 = p at *
  generalize t / 2 % (2 ^ 52 - 1) = q at *
  refine ⟨?_, by omega⟩
  have e : (p * 2 ^ 63 + 0x7ff0000000000000 + 1 + q) % Ieee.double.signWeight = 0x7ff0000000000000 + 1 + q := by
    show (p * 2 ^ 63 + 0x7ff0000000000000 + 1 + q) % 9223372036854775808 = _
    omega
  unfold nanN Ieee.Format.read
  dsimp only
  rw [e, if_neg (show ¬ 0x7ff0000000000000 + 1 + q < Ieee.double.binade by show ¬ _ < 4503599627370496; omega), if_neg (show ¬ 0x7ff0000000000000 + 1 + q < Ieee.double.infRung by show ¬ _ < 9218868437227405312; omega), if_neg (show ¬ 0x7ff0000000000000 + 1 + q = Ieee.double.infRung by show ¬ _ = 9218868437227405312; omega)]
  rfl
theorem floatArith_run {op : BinOp} {t : TypeId} {x y : BitVec 64} (hop : op = .add ∨ op = .sub ∨ op = .mul ∨ op = .quo) : ∃ r w', (binOp op t (F x) (F y)).run P w = .ok (F r) w' ∧ FR op x y r ∧ (w' = w ∨ w' = w.drew) := by
  cases h : floatBits op .f64 x.toNat y.toNat with
  | some r =>
    have hlt : r < 18446744073709551616 := by
      have := floatBits_wf h
      simp [Lit.wf] at this
      exact this
    have e : (BitVec.ofNat 64 r).toNat = r := by rw [BitVec.toNat_ofNat]; exact Nat.mod_eq_of_lt hlt
    exact ⟨BitVec.ofNat 64 r, w, by unfold F; rw [e]; exact run_float_arith w op t .f64 _ _ r h, by unfold FR; rw [h]; exact e, .inl rfl⟩
  | none =>
    have hw := nan_word x.toNat y.toNat (w.tape w.drawn (.nanBits .f64 x.toNat y.toNat))
    have e : (BitVec.ofNat 64 (Question.cut (.nanBits .f64 x.toNat y.toNat) (w.tape w.drawn (.nanBits .f64 x.toNat y.toNat)))).toNat = _ := (BitVec.toNat_ofNat ..).trans (Nat.mod_eq_of_lt hw.2)
    refine ⟨BitVec.ofNat 64 (Question.cut (.nanBits .f64 x.toNat y.toNat) (w.tape w.drawn (.nanBits .f64 x.toNat y.toNat))), w.drew, ?_, by unfold FR; rw [h]; unfold nanB; dsimp only; rw [e]; exact hw.1, .inr rfl⟩
    unfold F
    rw [e]
    unfold floatBits at h
    rcases hop with rfl | rfl | rfl | rfl <;> simp only at h <;> simp [binOp, Op.floatArith, h, Question.forced] <;> rfl
/-- Arithmetic: the result is told by a relation. -/
theorem s_float {op : BinOp} {t t' : TypeId} {d : Nat} {x y : Operand} {p q : BitVec 64} (hS : Slots a n E) (hM : Mem w0 w L) (hd : d < n) (hx : ev E x = some (F p)) (hy : ev E y = some (F q)) (hop : op = .add ∨ op = .sub ∨ op = .mul ∨ op = .quo)
    (h : ∀ a w r, FR op p q r → Slots a n (put E d (F r)) → Mem w0 w L → wpList P ops Q rest a w) : wpList P ops Q (⟨some d, .binOp op t x y t', ty, pos, af, none⟩ :: rest) a w := by
  obtain ⟨r, w', hr, hf, hw⟩ := floatArith_run (P := P) (w := w) (t := t) (x := p) (y := q) hop
  refine s_op (v := F r) (w' := w') hS hd rfl rfl ?_ (fun a hS => h a w' r hf hS (by rcases hw with rfl | rfl; exact hM; exact hM.drew))
  simp only [execOp, hS.eval hx, hS.eval hy]
  simp [gF, hr]
/-- A call that hands back some value, of which R tells, and leaves memory. -/
structure Tells (P : Program) (f : FuncId) (args : Array Value) (w : World) (R : Value → Prop) : Prop where
  ok : callable P f = true
  calls : Calls P f args w fun e w' => ∃ v, e = .returned v ∧ R v ∧ Mem w w' []
theorem s_tells {f : FuncId} {xs : List Operand} {ats : Array TypeId} {vs : List Value} {d : Nat} {R : Value → Prop} (hS : Slots a n E) (hM : Mem w0 w L) (hd : d < n) (hx : evs E xs = some vs) (hc : Tells P f vs.toArray w R)
    (h : ∀ a w v, R v → Slots a n (put E d v) → Mem w0 w L → wpList P ops Q rest a w) : wpList P ops Q (⟨some d, .call ⟨.value (.func f), xs.toArray, ats⟩, ty, pos, af, none⟩ :: rest) a w :=
  s_call hc.ok hS hd hx hc.calls (by
    rintro e w' ⟨v, rfl, hr, hm⟩
    exact ⟨_, rfl, fun a hS => h a w' v hr hS (hM.after hm)⟩)
theorem tells_end {v : Value} {R : Value → Prop} (hr : R v) (hM : Mem w0 w []) : ∃ v', Ending.returned v = .returned v' ∧ R v' ∧ Mem w0 w [] := ⟨v, rfl, hr, hM⟩
end
end Go.Sym
