/-
  Fields of an object behind a pointer.
-/
import Derived.Test.YtbfiaoemoookcaaDoorSymMem
namespace Go.Sym
open Go Go.RowKit

section
variable {P : Program} {Q : Exit → Act → World → Prop} {a : Act} {w w0 : World} {n : Nat} {E : Nat → Option Value} {L : List Blk} {ops : Array Oper} {rest : List Oper}
variable {dst : Option Nat} {ty : TypeId} {pos : String} {af : Array Edge} {g : Option (Nat × Bool)}
theorem r_fieldA {t : TypeId} {x : Operand} {b off f s k : Nat} {fields : Array Field} {fd : Field} (hS : Slots a n E) (hx : ev E x = some (ptr b off)) (hT : P.underlying t = some (.struct fields)) (hf : fields[f]? = some fd)
    (hs : (P.info? fd.type).map (·.size) = some (s + 1)) (hk : fd.offset = k) : Run P a ⟨dst, .fieldAddr t x f, ty, pos, af, g⟩ w (ptr b (off + k)) := by
  subst hk; exact r_fieldAddr hS hx hT hf hs
theorem r_field0 {t : TypeId} {x : Operand} {b f s k : Nat} {fields : Array Field} {fd : Field} (hS : Slots a n E) (hx : ev E x = some (ptr b 0)) (hT : P.underlying t = some (.struct fields)) (hf : fields[f]? = some fd)
    (hs : (P.info? fd.type).map (·.size) = some (s + 1)) (hk : fd.offset = k) : Run P a ⟨dst, .fieldAddr t x f, ty, pos, af, g⟩ w (ptr b k) := by
  have := r_fieldA (P := P) (w := w) (dst := dst) (ty := ty) (pos := pos) (af := af) (g := g) hS hx hT hf hs hk
  rwa [Nat.zero_add] at this
theorem r_fieldZ {t : TypeId} {x : Operand} {b off f s : Nat} {fields : Array Field} {fd : Field} (hS : Slots a n E) (hx : ev E x = some (ptr b off)) (hT : P.underlying t = some (.struct fields)) (hf : fields[f]? = some fd)
    (hs : (P.info? fd.type).map (·.size) = some (s + 1)) (hk : fd.offset = 0) : Run P a ⟨dst, .fieldAddr t x f, ty, pos, af, g⟩ w (ptr b off) := r_fieldA (P := P) (w := w) (dst := dst) (ty := ty) (pos := pos) (af := af) (g := g) hS hx hT hf hs hk
/-- the address of an element that has s cells -/
theorem r_index0z {t el : TypeId} {x y : Operand} {b len i s : Nat} {k : IntKind} (hS : Slots a n E) (hx : ev E x = some (ptr b 0)) (hy : ev E y = some (.int k (i : Int))) (hT : P.underlying t = some (.array len el))
    (hs : (P.info? el).map (·.size) = some s) (hi : i < len) : Run P a ⟨dst, .indexAddr t x y, ty, pos, af, g⟩ w (ptr b (s * i)) := by
  have := r_indexA (P := P) (w := w) (dst := dst) (ty := ty) (pos := pos) (af := af) (g := g) hS hx hy hT hs hi
  rwa [Nat.zero_add, Nat.mul_comm] at this
end
end Go.Sym
