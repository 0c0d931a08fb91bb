/-
  A region that draws its order and writes one block of the call's own at an open place.
-/
import Derived.Test.YtfojllcccncdbaaSymVary
namespace Go.Sym
open Go Go.RowKit

/-- Operation q writes the first block (z before, s then). -/
def SL (w0 : World) (q b : Nat) (T : TypeId) (z s : List Value) (L : List Blk) (S : Nat → Bool) (_V : Nat → Value) (w : World) : Prop :=
  w0.heap.size ≤ b ∧ Mem w0 w (⟨b, T, if S q then s else z⟩ :: L)

section
variable {w w' w0 : World} {q i b : Nat} {T : TypeId} {z s : List Value} {L : List Blk} {S : Nat → Bool} {V : Nat → Value} {v : Value}
theorem SL.start (hb : w0.heap.size ≤ b) (h : Mem w0 w (⟨b, T, z⟩ :: L)) : SL w0 q b T z s L (fun _ => false) V w := ⟨hb, h⟩
theorem SL.low (h : SL w0 q b T z s L S V w) : Mem w0 w L := h.2.drop h.1
theorem SL.keep (h : SL w0 q b T z s L S V w) (hq : Nat.beq q i = false) : SL w0 q b T z s L (gput S i true) (gput V i v) w := by
  unfold SL at h ⊢
  unfold gput
  rw [hq]
  exact h
theorem SL.after (h : SL w0 q b T z s L S V w) (hm : Mem w w' []) : SL w0 q b T z s L S V w' := ⟨h.1, h.2.after hm⟩
theorem SL.ahead (h : SL w0 q b T z s L S V w) (hq : S q = false) : Mem w0 w (⟨b, T, z⟩ :: L) := by
  have := h.2
  rw [hq] at this
  exact this
theorem SL.wrote (h : SL w0 q b T z s L S V w) (hM : Mem w0 w' (⟨b, T, s⟩ :: L)) : SL w0 q b T z s L (gput S q true) (gput V q v) w' := by
  unfold SL
  rw [gput_self]
  exact ⟨h.1, hM⟩
theorem SL.stop (h : SL w0 q b T z s L S V w) (hq : S q = true) : Mem w0 w (⟨b, T, s⟩ :: L) := by
  have := h.2
  rw [if_pos hq] at this
  exact this
end
end Go.Sym
