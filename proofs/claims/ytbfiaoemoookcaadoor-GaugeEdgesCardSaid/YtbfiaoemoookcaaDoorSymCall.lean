/-
  Calls that hand back a new row, and calls that write a row of the caller's. No program is in sight here.
-/
import Derived.Test.YtbfiaoemoookcaaDoorSymVary
import Derived.Test.YtbfiaoemoookcaaDoorSymSlice
namespace Go.Sym
open Go Go.RowKit

section
variable {P : Program} {Q : Exit → Act → World → Prop} {a : Act} {w w0 : World} {n : Nat} {E : Nat → Option Value} {L : List Blk} {ops : Array Oper} {rest : List Oper}
variable {ty : TypeId} {pos : String} {af : Array Edge}

/-- A call that hands back a new row of m cells, all of it. -/
structure NewRow (P : Program) (f : FuncId) (args : Array Value) (w : World) (el : TypeId) (m : Nat) (F : Nat → Value) : Prop where
  ok : callable P f = true
  calls : Calls P f args w fun e w' => ∃ b, e = .returned (.slice (some ⟨b, 0, none⟩) m m) ∧ w.heap.size ≤ b ∧ Mem w w' [⟨b, el, cells m F⟩]

theorem s_newrow {f : FuncId} {xs : List Operand} {ats : Array TypeId} {vs : List Value} {d m : Nat} {el : TypeId} {F : Nat → Value} (hS : Slots a n E) (hM : Mem w0 w L) (hd : d < n) (hx : evs E xs = some vs) (hc : NewRow P f vs.toArray w el m F)
    (h : ∀ a w b, w0.heap.size ≤ b → Slots a n (put E d (.slice (some ⟨b, 0, none⟩) m m)) → Mem w0 w (⟨b, el, cells m F⟩ :: L) → wpList P ops Q rest a w) : wpList P ops Q (⟨some d, .call ⟨.value (.func f), xs.toArray, ats⟩, ty, pos, af, none⟩ :: rest) a w :=
  s_call hc.ok hS hd hx hc.calls (by
    rintro e w' ⟨b, rfl, hb, hm⟩
    exact ⟨_, rfl, fun a hS => h a w' b (Nat.le_trans hM.size hb) hS (hM.after1 hm hb)⟩)

/-- The result of a new row. -/
theorem newrow_end {b m : Nat} {el : TypeId} {F : Nat → Value} (hb : w0.heap.size ≤ b) (hM : Mem w0 w [⟨b, el, cells m F⟩]) : ∃ b', Ending.returned (.slice (some ⟨b, 0, none⟩) m m) = .returned (.slice (some ⟨b', 0, none⟩) m m) ∧ w0.heap.size ≤ b' ∧ Mem w0 w [⟨b', el, cells m F⟩] := ⟨b, rfl, hb, hM⟩

/-- A call that writes one block that was there, and else leaves memory as it was. -/
structure Wrote (P : Program) (f : FuncId) (args : Array Value) (w : World) (b : Nat) (t : TypeId) (cs : List Value) (v : Value) : Prop where
  ok : callable P f = true
  calls : Calls P f args w fun e w' => e = .returned v ∧ Mem w w' [⟨b, t, cs⟩]

theorem Mem.start {b : Nat} {t : TypeId} {cs : List Value} (h : w.heap[b]? = some (.cells cs.toArray t (0, 0))) : Mem w w [⟨b, t, cs⟩] :=
  ⟨rfl, rfl, rfl, Nat.le_refl _, fun _ _ _ => rfl, fun e he => by simp only [List.mem_singleton] at he; subst he; exact h, by simp⟩
theorem Mem.block {b j : Nat} {t : TypeId} {cs : List Value} (hM : Mem w0 w L) (hj : L[j]? = some ⟨b, t, cs⟩) : w.heap[b]? = some (.cells cs.toArray t (0, 0)) := hM.have_ _ (mem_of_get hj)
theorem block_lt {b : Nat} {o : Obj} (h : w.heap[b]? = some o) : b < w.heap.size := (Array.getElem?_eq_some_iff.1 h).1

theorem s_wrote {f : FuncId} {xs : List Operand} {ats : Array TypeId} {vs : List Value} {d b j : Nat} {t : TypeId} {cs cs' : List Value} {v : Value} (hS : Slots a n E) (hM : Mem w0 w L) (hd : d < n) (hx : evs E xs = some vs) (hj : L[j]? = some ⟨b, t, cs⟩) (hc : Wrote P f vs.toArray w b t cs' v)
    (h : ∀ a w, Slots a n (put E d v) → Mem w0 w (setAt L j cs') → wpList P ops Q rest a w) : wpList P ops Q (⟨some d, .call ⟨.value (.func f), xs.toArray, ats⟩, ty, pos, af, none⟩ :: rest) a w :=
  s_call hc.ok hS hd hx hc.calls (by
    rintro e w' ⟨rfl, hm⟩
    exact ⟨_, rfl, fun a hS => h a w' hS (hM.wrote hj hm)⟩)

theorem rd_of {b m : Nat} {t : TypeId} {F : Nat → Value} (hM : Mem w0 w L) (h : ⟨b, t, cells m F⟩ ∈ L) : Rd w (.slice (some ⟨b, 0, none⟩) m m) m F := by
  obtain ⟨j, hj⟩ := List.getElem?_of_mem h
  exact rd_row hM hj
variable {opl : List Oper} {R : Value → List Blk → World → Prop} {dst : Option Nat}
theorem gy_newrow {f : FuncId} {xs : List Operand} {ats : Array TypeId} {vs : List Value} {m : Nat} {el : TypeId} {F : Nat → Value} (hS : Slots a n E) (hx : evs E xs = some vs) (hc : NewRow P f vs.toArray w el m F) (hM : Mem w0 w L)
    (hR : ∀ b w', w0.heap.size ≤ b → Mem w0 w' (⟨b, el, cells m F⟩ :: L) → R (.slice (some ⟨b, 0, none⟩) m m) [⟨b, el, cells m F⟩] w') : GYields P opl ⟨dst, .call ⟨.value (.func f), xs.toArray, ats⟩, ty, pos, af, none⟩ a w R :=
  gy_call hc.ok hS hx (hc.calls.mono fun _ w' ⟨b, he, hb, hm⟩ => ⟨_, _, he, hR b w' (Nat.le_trans hM.size hb) (hM.after1 hm hb)⟩)

/-- What the callee has made besides is forgotten. -/
theorem Mem.last {b : Nat} {t : TypeId} {cs : List Value} : ∀ {L : List Blk}, Mem w0 w (L ++ [⟨b, t, cs⟩]) → allGe w0.heap.size L → Mem w0 w [⟨b, t, cs⟩]
  | [], h, _ => h
  | _ :: _, h, hg => Mem.last (h.drop hg.1) hg.2
end
end Go.Sym
