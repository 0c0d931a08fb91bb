/-
  Rows and truth values held against each other with the sign 'not equal', and rows of signed numbers that are alike.
-/
import Derived.Test.YtfojllcccncdbaaSymSlice
namespace Go.Sym
open Go Go.RowKit

section
variable {P : Program} {Q : Exit → Act → World → Prop} {a : Act} {w w0 w1 : World} {n : Nat} {E : Nat → Option Value} {L Lx : List Blk} {ops : Array Oper} {rest : List Oper}
variable {dst : Option Nat} {ty : TypeId} {pos : String} {af : Array Edge} {g : Option (Nat × Bool)}

theorem run_neq_rows {t e : TypeId} {m : Nat} {d : TypeDesc} (ht : P.underlying t = some (.array m e)) (he : P.underlying e = some d) (hd : aggB d = false) (hsz : (P.info? e).map (·.size) = some 1) (F G : Nat → Value) (c : Nat → Bool)
    (hc : ∀ i w, i < m → (Op.equalIn 9999 e (F i) (G i)).run P w = .ok (c i) w) (w : World) :
    (binOp .neq t (.agg (cells m F).toArray) (.agg (cells m G).toArray)).run P w = .ok (.bool (!(List.range m).all c)) w := by
  have h := run_eql_rows (P := P) ht he hd hsz F G c hc w
  rw [run_eql_struct] at h
  rw [run_neq_struct]
  cases hr : (Op.equalIn 10000 t (.agg (cells m F).toArray) (.agg (cells m G).toArray)).run P w with
  | ok b w' =>
    rw [hr] at h
    simp only [Result.andThen_ok, Result.ok.injEq, Value.bool.injEq] at h
    simp only [Result.andThen_ok, h.1, h.2]
  | _ => rw [hr] at h; simp at h

theorem r_neqRows {t t' e : TypeId} {x y : Operand} {m : Nat} {d : TypeDesc} {F G : Nat → Value} {c : Nat → Bool} {b : Bool} (hS : Slots a n E) (hx : ev E x = some (.agg (cells m F).toArray)) (hy : ev E y = some (.agg (cells m G).toArray))
    (hq : P.eqGuardType P.depth t = false) (ht : P.underlying t = some (.array m e)) (he : P.underlying e = some d) (hd : aggB d = false) (hsz : (P.info? e).map (·.size) = some 1)
    (hc : ∀ i w, i < m → (Op.equalIn 9999 e (F i) (G i)).run P w = .ok (c i) w) (hb : (!(List.range m).all c) = b) : Run P a ⟨dst, .binOp .neq t x y t', ty, pos, af, g⟩ w (.bool b) := by
  have h1 := run_eqGuard_agg (P := P) w .neq t x y (cells m F).toArray (cells m G).toArray hq
  have h2 := run_neq_rows (P := P) ht he hd hsz F G c hc w
  subst hb
  simp [Run, execOp, hS.eval hx, hS.eval hy, h1, h2]

theorem r_neqB {t t' e : TypeId} {x y : Operand} {m : Nat} {f h : Nat → BitVec 8} (hS : Slots a n E) (hx : ev E x = some (.agg (cB m f).toArray)) (hy : ev E y = some (.agg (cB m h).toArray))
    (hq : P.eqGuardType P.depth t = false) (ht : P.underlying t = some (.array m e)) (he : P.underlying e = some (.int .u8)) (hsz : (P.info? e).map (·.size) = some 1) : Run P a ⟨dst, .binOp .neq t x y t', ty, pos, af, g⟩ w (.bool (!eqR m f h)) :=
  r_neqRows hS hx hy hq ht he rfl hsz (fun i w _ => eqB he (f i) (h i) w) rfl
theorem r_neqI {t t' e : TypeId} {x y : Operand} {m : Nat} {f h : Nat → BitVec 64} (hS : Slots a n E) (hx : ev E x = some (.agg (cI m f).toArray)) (hy : ev E y = some (.agg (cI m h).toArray))
    (hq : P.eqGuardType P.depth t = false) (ht : P.underlying t = some (.array m e)) (he : P.underlying e = some (.int .i64)) (hsz : (P.info? e).map (·.size) = some 1) : Run P a ⟨dst, .binOp .neq t x y t', ty, pos, af, g⟩ w (.bool (!eqR m f h)) :=
  r_neqRows hS hx hy hq ht he rfl hsz (fun i w _ => eqI he (f i) (h i) w) rfl
theorem r_neqU {t t' e : TypeId} {x y : Operand} {m : Nat} {f h : Nat → BitVec 64} (hS : Slots a n E) (hx : ev E x = some (.agg (cU m f).toArray)) (hy : ev E y = some (.agg (cU m h).toArray))
    (hq : P.eqGuardType P.depth t = false) (ht : P.underlying t = some (.array m e)) (he : P.underlying e = some (.int .u64)) (hsz : (P.info? e).map (·.size) = some 1) : Run P a ⟨dst, .binOp .neq t x y t', ty, pos, af, g⟩ w (.bool (!eqR m f h)) :=
  r_neqRows hS hx hy hq ht he rfl hsz (fun i w _ => eqU he (f i) (h i) w) rfl
theorem r_neqBt {t t' e : TypeId} {x y : Operand} {m : Nat} {f h : Nat → BitVec 8} (hS : Slots a n E) (hx : ev E x = some (.agg (cB m f).toArray)) (hy : ev E y = some (.agg (cB m h).toArray))
    (hq : P.eqGuardType P.depth t = false) (ht : P.underlying t = some (.array m e)) (he : P.underlying e = some (.int .u8)) (hsz : (P.info? e).map (·.size) = some 1) (hf : ∀ i, i < m → f i = h i) : Run P a ⟨dst, .binOp .neq t x y t', ty, pos, af, g⟩ w (.bool false) := by
  have := r_neqB (dst := dst) (ty := ty) (pos := pos) (af := af) (g := g) (w := w) (t' := t') hS hx hy hq ht he hsz
  rwa [eqR_true hf] at this
theorem r_neqUt {t t' e : TypeId} {x y : Operand} {m : Nat} {f h : Nat → BitVec 64} (hS : Slots a n E) (hx : ev E x = some (.agg (cU m f).toArray)) (hy : ev E y = some (.agg (cU m h).toArray))
    (hq : P.eqGuardType P.depth t = false) (ht : P.underlying t = some (.array m e)) (he : P.underlying e = some (.int .u64)) (hsz : (P.info? e).map (·.size) = some 1) (hf : ∀ i, i < m → f i = h i) : Run P a ⟨dst, .binOp .neq t x y t', ty, pos, af, g⟩ w (.bool false) := by
  have := r_neqU (dst := dst) (ty := ty) (pos := pos) (af := af) (g := g) (w := w) (t' := t') hS hx hy hq ht he hsz
  rwa [eqR_true hf] at this
theorem r_eqlIt {t t' e : TypeId} {x y : Operand} {m : Nat} {f h : Nat → BitVec 64} (hS : Slots a n E) (hx : ev E x = some (.agg (cI m f).toArray)) (hy : ev E y = some (.agg (cI m h).toArray))
    (hq : P.eqGuardType P.depth t = false) (ht : P.underlying t = some (.array m e)) (he : P.underlying e = some (.int .i64)) (hsz : (P.info? e).map (·.size) = some 1) (hf : ∀ i, i < m → f i = h i) : Run P a ⟨dst, .binOp .eql t x y t', ty, pos, af, g⟩ w (.bool true) := by
  have := r_eqlI (dst := dst) (ty := ty) (pos := pos) (af := af) (g := g) (w := w) (t' := t') hS hx hy hq ht he hsz
  rwa [eqR_true hf] at this
theorem r_nebt {t t' : TypeId} {x y : Operand} {b c : Bool} (hS : Slots a n E) (hx : ev E x = some (.bool b)) (hy : ev E y = some (.bool c)) (hT : P.underlying t = some .bool) (h : b = c) : Run P a ⟨dst, .binOp .neq t x y t', ty, pos, af, g⟩ w (.bool false) := by
  have := r_neb (dst := dst) (ty := ty) (pos := pos) (af := af) (g := g) (w := w) (t' := t') hS hx hy hT
  rw [h] at this
  simpa using this
end
end Go.Sym
