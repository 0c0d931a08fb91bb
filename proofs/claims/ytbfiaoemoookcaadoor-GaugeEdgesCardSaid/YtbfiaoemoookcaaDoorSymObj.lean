/-
  Objects behind a pointer: a call that makes one, a call that reads one; nil; a part of an object that is written or cut.
-/
import Derived.Test.YtbfiaoemoookcaaDoorSymScope
import Derived.Test.YtbfiaoemoookcaaDoorSymField
import Derived.Test.YtbfiaoemoookcaaDoorSymCall
import Derived.Laws.Pointers
namespace Go.Sym
open Go Go.RowKit

section
variable {P : Program} {Q : Exit → Act → World → Prop} {a : Act} {w w0 : World} {n : Nat} {E : Nat → Option Value} {L Lx : List Blk} {ops : Array Oper} {rest : List Oper}
variable {dst : Option Nat} {ty : TypeId} {pos : String} {af : Array Edge} {g : Option (Nat × Bool)}

/-- A block that was there and is as it was need not be told. -/
theorem Mem.same {b : Nat} {t : TypeId} {cs : List Value} {L : List Blk} (hb : w0.heap[b]? = some (.cells cs.toArray t (0, 0))) (hM : Mem w0 w (⟨b, t, cs⟩ :: L)) : Mem w0 w L :=
  ⟨hM.os, hM.tape, hM.output, hM.size, fun k hk hne => by
    by_cases h : k = b
    · subst h
      rw [hM.have_ ⟨k, t, cs⟩ (by simp), hb]
    · exact hM.old k hk (fun e he => by
        rcases List.mem_cons.1 he with rfl | he
        · exact fun e => h e.symm
        · exact hne e he), fun e he => hM.have_ e (List.mem_cons_of_mem _ he), by
      have := hM.nodup
      rw [List.map_cons, List.nodup_cons] at this
      exact this.2⟩

/-- A call that makes one object and hands back its address. -/
structure NewObj (P : Program) (f : FuncId) (args : Array Value) (w : World) (t : TypeId) (cs : List Value) : Prop where
  ok : callable P f = true
  calls : Calls P f args w fun e w' => ∃ b, e = .returned (ptr b 0) ∧ w.heap.size ≤ b ∧ Mem w w' [⟨b, t, cs⟩]
theorem newobj_end {b : Nat} {t : TypeId} {cs : List Value} (hb : w0.heap.size ≤ b) (hM : Mem w0 w [⟨b, t, cs⟩]) : ∃ b', Ending.returned (ptr b 0) = .returned (ptr b' 0) ∧ w0.heap.size ≤ b' ∧ Mem w0 w [⟨b', t, cs⟩] := ⟨b, rfl, hb, hM⟩
theorem s_newobj {f : FuncId} {xs : List Operand} {ats : Array TypeId} {vs : List Value} {d : Nat} {t : TypeId} {cs : List Value} (hS : Slots a n E) (hM : Mem w0 w L) (hd : d < n) (hx : evs E xs = some vs) (hc : NewObj P f vs.toArray w t cs)
    (h : ∀ a w b, w0.heap.size ≤ b → Slots a n (put E d (ptr b 0)) → Mem w0 w (⟨b, t, cs⟩ :: L) → wpList P ops Q rest a w) : wpList P ops Q (⟨some d, .call ⟨.value (.func f), xs.toArray, ats⟩, ty, pos, af, none⟩ :: rest) a w :=
  s_call hc.ok hS hd hx hc.calls (by
    rintro e w' ⟨b, rfl, hb, hm⟩
    exact ⟨_, rfl, fun a hS => h a w' b (Nat.le_trans hM.size hb) hS (hM.after1 hm hb)⟩)

/-- A call that makes one object and hands back its address and true. -/
structure NewObj2 (P : Program) (f : FuncId) (args : Array Value) (w : World) (t : TypeId) (cs : List Value) : Prop where
  ok : callable P f = true
  calls : Calls P f args w fun e w' => ∃ b, e = .returned (.tuple #[ptr b 0, .bool true]) ∧ w.heap.size ≤ b ∧ Mem w w' [⟨b, t, cs⟩]
theorem s_newobj2 {f : FuncId} {xs : List Operand} {ats : Array TypeId} {vs : List Value} {d : Nat} {t : TypeId} {cs : List Value} (hS : Slots a n E) (hM : Mem w0 w L) (hd : d < n) (hx : evs E xs = some vs) (hc : NewObj2 P f vs.toArray w t cs)
    (h : ∀ a w b, w0.heap.size ≤ b → Slots a n (put E d (.tuple #[ptr b 0, .bool true])) → Mem w0 w (⟨b, t, cs⟩ :: L) → wpList P ops Q rest a w) : wpList P ops Q (⟨some d, .call ⟨.value (.func f), xs.toArray, ats⟩, ty, pos, af, none⟩ :: rest) a w :=
  s_call hc.ok hS hd hx hc.calls (by
    rintro e w' ⟨b, rfl, hb, hm⟩
    exact ⟨_, rfl, fun a hS => h a w' b (Nat.le_trans hM.size hb) hS (hM.after1 hm hb)⟩)

theorem r_ptrNil {t t' pe : TypeId} {x y : Operand} {b off : Nat} (hS : Slots a n E) (hx : ev E x = some (ptr b off)) (hy : ev E y = some (.pointer none)) (hT : P.underlying t = some (.pointer pe)) : Run P a ⟨dst, .binOp .eql t x y t', ty, pos, af, g⟩ w (.bool false) := by
  have hp : P.underlying t = some (.pointer (P.pointee t)) := by unfold Program.pointee; rw [hT]
  have h := run_eql_pointer_nil (P := P) (w := w) t (some ⟨b, off, none⟩) hp
  simp [Run, execOp, hS.eval hx, hS.eval hy, ptr, eqGuard_at_pointer, h]
theorem r_nilNil {t t' pe : TypeId} {x y : Operand} (hS : Slots a n E) (hx : ev E x = some (.pointer none)) (hy : ev E y = some (.pointer none)) (hT : P.underlying t = some (.pointer pe)) : Run P a ⟨dst, .binOp .eql t x y t', ty, pos, af, g⟩ w (.bool true) := by
  have hp : P.underlying t = some (.pointer (P.pointee t)) := by unfold Program.pointee; rw [hT]
  have h := run_eql_pointer_nil (P := P) (w := w) t none hp
  simp [Run, execOp, hS.eval hx, hS.eval hy, eqGuard_at_pointer, h]

theorem slc_some {b o len cap l h : Nat} (hl : l ≠ cap) : slc (.slice (some ⟨b, o, none⟩) len cap) l h = .slice (some ⟨b, o + l, none⟩) (h - l) (cap - l) := by
  have e : ¬ cap = l := fun e => hl e.symm
  simp [slc, e, Addr.add_lit]
theorem r_sliceO {t el : TypeId} {x : Operand} {lo hi : Option Operand} {b o len cap l h : Nat} (hS : Slots a n E) (hx : ev E x = some (.slice (some ⟨b, o, none⟩) len cap)) (hT : P.underlying t = some (.slice el)) (hs : (P.info? el).map (·.size) = some 1)
    (hlo : Bnd E lo 0 l) (hhi : Bnd E hi len h) (hlh : l ≤ h) (hh : h ≤ cap) (hl : l ≠ cap) : Run P a ⟨dst, .slice t x lo hi none, ty, pos, af, g⟩ w (.slice (some ⟨b, o + l, none⟩) (h - l) (cap - l)) := by
  have := r_slice (P := P) (w := w) (dst := dst) (ty := ty) (pos := pos) (af := af) (g := g) hS hx hT hs hlo hhi hlh hh
  rwa [slc_some hl] at this
theorem r_sliceP {t el : TypeId} {x : Operand} {lo hi : Option Operand} {b off len l h : Nat} (hS : Slots a n E) (hx : ev E x = some (ptr b off)) (hT : P.underlying t = some (.array len el)) (hs : (P.info? el).map (·.size) = some 1)
    (hlo : Bnd E lo 0 l) (hhi : Bnd E hi len h) (hlh : l ≤ h) (hh : h ≤ len) (hl : l ≠ len) : Run P a ⟨dst, .slice t x lo hi none, ty, pos, af, g⟩ w (.slice (some ⟨b, off + l, none⟩) (h - l) (len - l)) := by
  have := r_sliceA (P := P) (w := w) (dst := dst) (ty := ty) (pos := pos) (af := af) (g := g) hS hx hT hs hlo hhi hlh hh
  rwa [slc_some hl] at this
/-- A slice as a row of a known length. -/
theorem r_s2a {t el : TypeId} {x : Operand} {b o len cap m : Nat} (hS : Slots a n E) (hx : ev E x = some (.slice (some ⟨b, o, none⟩) len cap)) (hT : P.underlying t = some (.array m el)) (hm : m ≤ len) : Run P a ⟨dst, .sliceToArrayPointer t x, ty, pos, af, g⟩ w (ptr b o) := by
  have : ¬ len < m := by omega
  simp [Run, execOp, hS.eval hx, Instr.arrayAt, run_underlying hT, this, ptr]
variable {opl : List Oper} {R : Value → List Blk → World → Prop}
theorem gy_fresh {f : FuncId} {xs : List Operand} {ats : Array TypeId} {vs : List Value} {el : TypeId} {cs : List Value} (hS : Slots a n E) (hx : evs E xs = some vs) (hc : Fresh P f vs.toArray w el cs) (hM : Mem w0 w L)
    (hR : ∀ v Lx w', Own w0.heap.size el v cs Lx → Mem w0 w' (Lx ++ L) → R v Lx w') : GYields P opl ⟨dst, .call ⟨.value (.func f), xs.toArray, ats⟩, ty, pos, af, none⟩ a w R :=
  gy_call hc.ok hS hx (hc.calls.mono fun _ w' ⟨v, Lx, he, ho, hm⟩ => ⟨v, Lx, he, hR v Lx w' (ho.mono hM.size) (hM.growX hm ho.ge)⟩)
end
end Go.Sym
