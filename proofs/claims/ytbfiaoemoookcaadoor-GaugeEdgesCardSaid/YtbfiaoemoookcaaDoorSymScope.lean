/-
  A scope with a label that nothing jumps to; the lesser and the greater of two numbers.
-/
import Derived.Test.YtbfiaoemoookcaaDoorSymSlice
import Derived.Scope
import Derived.Laws.Small
namespace Go.Sym
open Go Go.RowKit

section
variable {P : Program} {Q : Exit → Act → World → Prop} {a : Act} {w w0 : World} {n : Nat} {E : Nat → Option Value} {L : List Blk} {ops : Array Oper} {rest : List Oper}
variable {dst : Option Nat} {ty : TypeId} {pos : String} {af : Array Edge} {g : Option (Nat × Bool)}

theorem c_scope {c : Code} (h : c.wp P (Exit.noGoto Q) a w) : (Code.scope c).wp P Q a w := wp_scope_straight h
theorem c_label {l : Nat} (h : Q .normal a w) : (Code.label l).wp P Q a w := wp_label h
theorem k_sc (h : Q .normal a w) : Exit.noGoto Q .normal a w := h
theorem k_scx {id : Nat} (h : Q (.exit id) a w) : Exit.noGoto Q (.exit id) a w := h
theorem k_scr (h : Q .ret a w) : Exit.noGoto Q .ret a w := h

theorem r_min {x y : Operand} {ts : Array TypeId} {k k' : IntKind} {p q r : Int} (hS : Slots a n E) (hx : ev E x = some (.int k p)) (hy : ev E y = some (.int k' q)) (hr : (if q < p then q else p) = r) : Run P a ⟨dst, .call ⟨.builtin .min, #[x, y], ts⟩, ty, pos, af, g⟩ w (.int k r) := by
  subst hr
  simp [Run, execOp, hS.eval hx, hS.eval hy, resolve, invoke, builtin, run_min_int2]
theorem r_max {x y : Operand} {ts : Array TypeId} {k k' : IntKind} {p q r : Int} (hS : Slots a n E) (hx : ev E x = some (.int k p)) (hy : ev E y = some (.int k' q)) (hr : (if q > p then q else p) = r) : Run P a ⟨dst, .call ⟨.builtin .max, #[x, y], ts⟩, ty, pos, af, g⟩ w (.int k r) := by
  subst hr
  simp [Run, execOp, hS.eval hx, hS.eval hy, resolve, invoke, builtin, run_max_int2]

/-- A call that is wanted and hands back a slice of its own. -/
theorem s_freshg {f : FuncId} {xs : List Operand} {ats : Array TypeId} {vs : List Value} {d j dj : Nat} {b : Bool} {oj : Oper} {el : TypeId} {cs : List Value} (hS : Slots a n E) (hM : Mem w0 w L) (hd : d < n) (hx : evs E xs = some vs) (hj : ops[j]? = some oj) (hdj : oj.dst = some dj)
    (hb : E dj = some (.bool b)) (hc : Fresh P f vs.toArray w el cs)
    (h : ∀ a w v Lx, Own w0.heap.size el v cs Lx → Slots a n (put E d v) → Mem w0 w (Lx ++ L) → wpList P ops Q rest a w) : wpList P ops Q (⟨some d, .call ⟨.value (.func f), xs.toArray, ats⟩, ty, pos, af, some (j, b)⟩ :: rest) a w := by
  have hw : Region.wanted ⟨some d, .call ⟨.value (.func f), xs.toArray, ats⟩, ty, pos, af, some (j, b)⟩ (yielded ops a.tmps) = true := by
    have := hS.get _ _ hb
    simp [Region.wanted, yielded, hj, hdj, this]
  refine wpList_step (fun K hK => ?_)
  rw [if_pos hw]
  unfold Oper.wp
  rw [run_call hc.ok hS hx, Oper.upon_enter]
  refine hc.calls.mono ?_
  rintro e w' ⟨v, Lx, rfl, ho, hm⟩
  exact hK _ _ (h _ w' v Lx (ho.mono hM.size) (hS.put v hd) (hM.growX hm ho.ge))

/-- Elements of one cell each, of two. -/
theorem one2 {x y : Value} (hx : x.oneCell' = true) (hy : y.oneCell' = true) (i : Nat) : (if i = 0 then x else y).oneCell' = true := by split <;> assumption
/-- The row of two elements that was made last. -/
theorem row2 {b t : Nat} {x y : Value} (hM : Mem w0 w (⟨b, t, [x, y]⟩ :: L)) : Rd w (.slice (some ⟨b, 0, none⟩) 2 2) 2 (fun i => if i = 0 then x else y) :=
  rd_row (F := fun i => if i = 0 then x else y) hM (j := 0) rfl

/-- An operation whose guard was not wanted itself. -/
theorem s_skipu {o : Oper} {d j dj : Nat} {b : Bool} {oj : Oper} (hS : Slots a n E) (hd : d < n) (ho : o.dst = some d) (hg : o.guard = some (j, b)) (hj : ops[j]? = some oj) (hdj : oj.dst = some dj)
    (hb : E dj = some undef) (h : ∀ a, Slots a n (put E d undef) → wpList P ops Q rest a w) : wpList P ops Q (o :: rest) a w := by
  have hw : Region.wanted o (yielded ops a.tmps) = false := by
    have := hS.get _ _ hb
    simp [Region.wanted, hg, yielded, hj, hdj, this, undef]
  refine wpList_skip hw ?_
  rw [ho]
  exact h _ (hS.put undef hd)
end
section
variable {P : Program} {ops : List Oper} {n : Nat} {C : World → Prop} {o : Oper} {a : Act} {w : World} {E : Nat → Option Value}
theorem y_skipu {j dj : Nat} {b : Bool} {oj : Oper} (hS : Slots a n E) (hg : o.guard = some (j, b)) (hj : ops[j]? = some oj) (hdj : oj.dst = some dj) (hb : E dj = some undef) : Yields P ops C o a w undef := by
  refine .inr ⟨?_, rfl⟩
  have := hS.get _ _ hb
  have hj' : ops.toArray[j]? = some oj := by simpa using hj
  simp [Region.wanted, hg, yielded, hj', hdj, this, undef]
end
end Go.Sym
