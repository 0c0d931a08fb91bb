/-
  A walk without 'simp': the frame as a partial map of known slots, the memory as a list of blocks that the call knows; one small law for each operation, each applied by name. No program is in sight here.
-/
import Derived.WalkKit
import Derived.Deep.LoopGhost
namespace Go.Sym
open Go Go.RowKit

/-! ### Numbers of a fixed width -/

theorem wrap_signed (k : IntKind) (n : Int) (hs : k.signed = true) : k.wrap n = (BitVec.ofInt k.bits n).toInt := by
  rw [BitVec.toInt_ofInt]
  unfold IntKind.wrap Int.bmod
  cases k <;> simp [IntKind.signed, IntKind.bits] at hs ⊢ <;> omega

theorem wrap_unsigned (k : IntKind) (n : Int) (hs : k.signed = false) : k.wrap n = ((BitVec.ofInt k.bits n).toNat : Int) := by
  rw [BitVec.toNat_ofInt]
  cases k <;> simp [IntKind.wrap, IntKind.signed, IntKind.bits] at hs ⊢ <;> omega

def U (x : BitVec 64) : Value := .int .u64 (x.toNat : Int)
def W (x : BitVec 32) : Value := .int .u32 (x.toNat : Int)
def B (x : BitVec 8) : Value := .int .u8 (x.toNat : Int)
def I (x : BitVec 64) : Value := .int .i64 x.toInt
def N (n : Nat) : Value := .int .i64 (n : Int)
def ptr (b off : Nat) : Value := .pointer (some ⟨b, off, none⟩)

theorem wrapU (n : Int) : IntKind.u64.wrap n = ((BitVec.ofInt 64 n).toNat : Int) := wrap_unsigned .u64 n rfl
theorem wrapW (n : Int) : IntKind.u32.wrap n = ((BitVec.ofInt 32 n).toNat : Int) := wrap_unsigned .u32 n rfl
theorem wrapB (n : Int) : IntKind.u8.wrap n = ((BitVec.ofInt 8 n).toNat : Int) := wrap_unsigned .u8 n rfl
theorem wrapI (n : Int) : IntKind.i64.wrap n = (BitVec.ofInt 64 n).toInt := wrap_signed .i64 n rfl

theorem ofInt_nat {w : Nat} (x : BitVec w) : BitVec.ofInt w (x.toNat : Int) = x := by simp
theorem ofInt_int {w : Nat} (x : BitVec w) : BitVec.ofInt w x.toInt = x := by simp

/-! ### The frame -/

def put (E : Nat → Option Value) (d : Nat) (v : Value) : Nat → Option Value := fun i => bif Nat.beq i d then some v else E i

theorem beq_self (i : Nat) : Nat.beq i i = true := by simp
theorem beq_ne {i d : Nat} (h : i ≠ d) : Nat.beq i d = false := by
  cases hb : Nat.beq i d with
  | false => rfl
  | true => exact absurd (Nat.eq_of_beq_eq_true hb) h

structure Slots (a : Act) (n : Nat) (E : Nat → Option Value) : Prop where
  defers : a.defers = []
  size : a.tmps.size = n
  get : ∀ i v, E i = some v → a.tmps[i]? = some v

def ev (E : Nat → Option Value) : Operand → Option Value
  | .tmp t => E t
  | .const v => some v
  | .global g => some (.pointer (some ⟨g, 0, none⟩))
  | .func f => some (.func (.func f) #[] #[])

theorem Slots.eval {a : Act} {n : Nat} {E : Nat → Option Value} (hS : Slots a n E) {x : Operand} {v : Value} (h : ev E x = some v) : a.eval x = v := by
  cases x with
  | tmp t =>
    have := hS.get t v h
    simp [Act.eval, this]
  | const c => simpa [ev, Act.eval] using h
  | global g => simpa [ev, Act.eval] using h
  | func f => simpa [ev, Act.eval] using h

theorem Slots.put {a : Act} {n : Nat} {E : Nat → Option Value} (hS : Slots a n E) {d : Nat} (v : Value) (hd : d < n) : Slots (a.put (some d) v) n (Sym.put E d v) where
  defers := hS.defers
  size := by simp [Act.put, hS.size]
  get := by
    intro i u h
    unfold Sym.put at h
    by_cases hi : i = d
    · subst hi
      rw [beq_self] at h
      simp only [cond_true, Option.some.injEq] at h
      subst h
      simp [Act.put, hS.size, hd]
    · rw [beq_ne hi] at h
      simp only [cond_false] at h
      have := hS.get i u h
      simp only [Act.put, Array.getElem?_setIfInBounds]
      rw [if_neg (fun e => hi e.symm)]
      exact this

theorem Slots.put_none {a : Act} {n : Nat} {E : Nat → Option Value} (hS : Slots a n E) (v : Value) : Slots (a.put none v) n E := hS

/-- Fewer slots are known. -/
theorem Slots.weaken {a : Act} {n : Nat} {E E' : Nat → Option Value} (hS : Slots a n E) (h : ∀ i v, E' i = some v → E i = some v) : Slots a n E' :=
  ⟨hS.defers, hS.size, fun i v hv => hS.get i v (h i v hv)⟩

/-- The map of a list. -/
def env : List (Nat × Value) → Nat → Option Value
  | [] => fun _ => none
  | (d, v) :: l => fun i => bif Nat.beq i d then some v else env l i

def allIn (E : Nat → Option Value) : List (Nat × Value) → Prop
  | [] => True
  | (d, v) :: l => E d = some v ∧ allIn E l

theorem Slots.to {a : Act} {n : Nat} {E : Nat → Option Value} (hS : Slots a n E) (l : List (Nat × Value)) (h : allIn E l) : Slots a n (env l) := by
  refine hS.weaken ?_
  induction l with
  | nil => intro i v hv; cases hv
  | cons p l ih =>
    obtain ⟨d, u⟩ := p
    intro i v hv
    unfold env at hv
    by_cases hi : i = d
    · subst hi; rw [beq_self] at hv; simp only [cond_true] at hv; rw [← hv]; exact h.1
    · rw [beq_ne hi] at hv; simp only [cond_false] at hv; exact ih h.2 i v hv

def initE (args : Array Value) : Nat → Option Value := fun i => args[i]?

/-! ### The memory -/

structure Blk where
  b : Nat
  t : TypeId
  cs : List Value

structure Mem (w0 w : World) (L : List Blk) : Prop where
  os : w.os = w0.os
  tape : w.tape = w0.tape
  output : w.output = w0.output
  size : w0.heap.size ≤ w.heap.size
  old : ∀ k, k < w0.heap.size → (∀ e ∈ L, e.b ≠ k) → w.heap[k]? = w0.heap[k]?
  have_ : ∀ e ∈ L, w.heap[e.b]? = some (.cells e.cs.toArray e.t (0, 0))
  nodup : (L.map (·.b)).Nodup

theorem Mem.refl (w : World) : Mem w w [] := ⟨rfl, rfl, rfl, Nat.le_refl _, fun _ _ _ => rfl, fun _ h => by (cases h), List.nodup_nil⟩

theorem Mem.below {w0 w : World} (h : Mem w0 w []) : Below w0.heap.size w0 w := ⟨h.os, h.tape, h.output, h.size, fun k hk => h.old k hk (fun _ h => by cases h)⟩
theorem Mem.of_below {w0 w : World} (h : Below w0.heap.size w0 w) : Mem w0 w [] := ⟨h.os, h.tape, h.output, h.size, fun k hk _ => h.block k hk, fun _ h => (by cases h), List.nodup_nil⟩

theorem Mem.drawn {w0 w : World} {L : List Blk} (h : Mem w0 w L) (n : Nat) : Mem w0 { w with drawn := n } L := ⟨h.os, h.tape, h.output, h.size, h.old, h.have_, h.nodup⟩

theorem Mem.lt {w0 w : World} {L : List Blk} (h : Mem w0 w L) {e : Blk} (he : e ∈ L) : e.b < w.heap.size := by
  have := h.have_ e he
  by_cases hlt : e.b < w.heap.size
  · exact hlt
  · have hn : w.heap[e.b]? = none := by simp; omega
    rw [hn] at this; cases this

theorem mem_of_get {L : List Blk} {j : Nat} {e : Blk} (h : L[j]? = some e) : e ∈ L := List.mem_of_getElem? h

/-- A new block. -/
theorem Mem.alloc {w0 w : World} {L : List Blk} (h : Mem w0 w L) (t : TypeId) (cs : List Value) :
    Mem w0 (w.alloc (.cells cs.toArray t (0, 0))) (⟨w.heap.size, t, cs⟩ :: L) where
  os := h.os
  tape := h.tape
  output := h.output
  size := by have := h.size; simp; omega
  old := by
    intro k hk hne
    rw [Below.heap_alloc _ _ _ (by have := h.size; omega)]
    exact h.old k hk (fun e he => hne e (List.mem_cons_of_mem _ he))
  have_ := by
    intro e he
    rcases List.mem_cons.1 he with rfl | he
    · exact heap_alloc_new w _
    · rw [Below.heap_alloc _ _ _ (h.lt he)]; exact h.have_ e he
  nodup := by
    simp only [List.map_cons, List.nodup_cons]
    refine ⟨?_, h.nodup⟩
    intro hm
    obtain ⟨e, he, hb⟩ := List.mem_map.1 hm
    have := h.lt he
    omega

/-- Forgetting a block that is the call's own. -/
theorem Mem.drop {w0 w : World} {L : List Blk} {e : Blk} (h : Mem w0 w (e :: L)) (he : w0.heap.size ≤ e.b) : Mem w0 w L where
  os := h.os
  tape := h.tape
  output := h.output
  size := h.size
  old := by
    intro k hk hne
    refine h.old k hk (fun f hf => ?_)
    rcases List.mem_cons.1 hf with rfl | hf
    · omega
    · exact hne f hf
  have_ := fun f hf => h.have_ f (List.mem_cons_of_mem _ hf)
  nodup := by have := h.nodup; simp only [List.map_cons, List.nodup_cons] at this; exact this.2

theorem Mem.dropAll {w0 w : World} : ∀ {L : List Blk}, Mem w0 w L → (∀ e ∈ L, w0.heap.size ≤ e.b) → Mem w0 w []
  | [], h, _ => h
  | e :: _, h, hb => Mem.dropAll (h.drop (hb e (List.mem_cons_self))) (fun f hf => hb f (List.mem_cons_of_mem _ hf))

theorem modify_get? {α : Type} (xs : Array α) (i j : Nat) (f : α → α) : (xs.modify i f)[j]? = if i = j then (xs[j]?).map f else xs[j]? := by
  rw [Array.getElem?_modify]

/-- The block at place j is written. -/
def setAt : List Blk → Nat → List Value → List Blk
  | [], _, _ => []
  | ⟨b, t, _⟩ :: L, 0, cs => ⟨b, t, cs⟩ :: L
  | e :: L, j + 1, cs => e :: setAt L j cs

theorem setAt_map : ∀ (L : List Blk) (j : Nat) (cs : List Value), (setAt L j cs).map (·.b) = L.map (·.b)
  | [], _, _ => rfl
  | ⟨_, _, _⟩ :: _, 0, _ => rfl
  | e :: L, j + 1, cs => by simp only [setAt, List.map_cons, setAt_map L j cs]

theorem setAt_get : ∀ {L : List Blk} {j : Nat} {e : Blk} (cs : List Value), L[j]? = some e → (setAt L j cs)[j]? = some ⟨e.b, e.t, cs⟩
  | [], _, _, _, h => by cases h
  | ⟨_, _, _⟩ :: _, 0, _, _, h => by simp at h; subst h; rfl
  | _ :: L, j + 1, _, cs, h => by
    simp only [setAt, List.getElem?_cons_succ] at h ⊢
    exact setAt_get cs h

theorem setAt_setAt : ∀ (L : List Blk) (j : Nat) (cs cs' : List Value), setAt (setAt L j cs) j cs' = setAt L j cs'
  | [], _, _, _ => rfl
  | ⟨_, _, _⟩ :: _, 0, _, _ => rfl
  | e :: L, j + 1, cs, cs' => by simp only [setAt, setAt_setAt L j cs cs']

theorem setAt_same : ∀ {L : List Blk} {j : Nat} {e : Blk}, L[j]? = some e → setAt L j e.cs = L
  | [], _, _, h => by cases h
  | ⟨_, _, _⟩ :: _, 0, _, h => by simp at h; subst h; rfl
  | _ :: L, j + 1, _, h => by
    simp only [setAt, List.getElem?_cons_succ] at h ⊢
    rw [setAt_same h]

theorem mem_setAt : ∀ {L : List Blk} {j : Nat} {cs : List Value} {e : Blk}, L[j]? = some e → (L.map (·.b)).Nodup → ∀ {f : Blk}, f ∈ setAt L j cs →
    (f = ⟨e.b, e.t, cs⟩) ∨ (f ∈ L ∧ f.b ≠ e.b)
  | [], _, _, _, h, _, _, _ => by cases h
  | ⟨_, _, _⟩ :: L, 0, cs, e, h, hn, f, hf => by
    simp at h; subst h
    simp only [List.map_cons, List.nodup_cons] at hn
    simp only [setAt, List.mem_cons] at hf
    rcases hf with rfl | hf
    · exact .inl rfl
    · exact .inr ⟨List.mem_cons_of_mem _ hf, fun e => hn.1 (by have h := List.mem_map_of_mem (f := fun x : Blk => x.b) hf; simp only [e] at h; exact h)⟩
  | g :: L, j + 1, cs, e, h, hn, f, hf => by
    simp only [List.map_cons, List.nodup_cons] at hn
    simp only [setAt, List.getElem?_cons_succ, List.mem_cons] at h hf
    rcases hf with rfl | hf
    · exact .inr ⟨List.mem_cons_self, fun e => hn.1 (e ▸ List.mem_map_of_mem (List.mem_of_getElem? h))⟩
    · rcases mem_setAt h hn.2 hf with h' | ⟨h1, h2⟩
      · exact .inl h'
      · exact .inr ⟨List.mem_cons_of_mem _ h1, h2⟩

/-- Each block of the list is one that the call has made. -/
def allGe (m : Nat) : List Blk → Prop
  | [] => True
  | e :: L => m ≤ e.b ∧ allGe m L
def allNe (b : Nat) : List Blk → Prop
  | [] => True
  | e :: L => e.b ≠ b ∧ allNe b L
theorem allGe_spec {m : Nat} : ∀ {L : List Blk}, allGe m L → ∀ e ∈ L, m ≤ e.b
  | [], _, _, h => by cases h
  | _ :: _, h, e, he => by
    rcases List.mem_cons.1 he with rfl | he
    · exact h.1
    · exact allGe_spec h.2 e he
theorem allNe_spec {b : Nat} : ∀ {L : List Blk}, allNe b L → ∀ e ∈ L, e.b ≠ b
  | [], _, _, h => by cases h
  | _ :: _, h, e, he => by
    rcases List.mem_cons.1 he with rfl | he
    · exact h.1
    · exact allNe_spec h.2 e he
theorem ne_fresh {b b' m : Nat} (h : b < m) (h' : m ≤ b') : b' ≠ b := by omega

theorem Mem.done {w0 w : World} {L : List Blk} (h : Mem w0 w L) (hb : allGe w0.heap.size L) : Mem w0 w [] := h.dropAll (allGe_spec hb)
theorem Mem.congr {w0 w : World} {L L' : List Blk} (h : Mem w0 w L) (e : L = L') : Mem w0 w L' := e ▸ h

theorem Mem.write {w0 w w' : World} {L : List Blk} (h : Mem w0 w L) {j : Nat} {e : Blk} (hj : L[j]? = some e) (cs : List Value)
    (hos : w'.os = w.os) (htape : w'.tape = w.tape) (hout : w'.output = w.output) (hsz : w'.heap.size = w.heap.size)
    (hoth : ∀ k, k ≠ e.b → w'.heap[k]? = w.heap[k]?) (hnew : w'.heap[e.b]? = some (.cells cs.toArray e.t (0, 0))) : Mem w0 w' (setAt L j cs) where
  os := hos.trans h.os
  tape := htape.trans h.tape
  output := hout.trans h.output
  size := by rw [hsz]; exact h.size
  old := by
    intro k hk hne
    have hb : ∀ f ∈ L, f.b ≠ k := by
      intro f hf hfk
      have : k ∈ (setAt L j cs).map (·.b) := by rw [setAt_map]; exact hfk ▸ List.mem_map_of_mem hf
      obtain ⟨g, hg, hgk⟩ := List.mem_map.1 this
      exact hne g hg hgk
    rw [hoth k (fun hke => hb e (mem_of_get hj) hke.symm)]
    exact h.old k hk hb
  have_ := by
    intro f hf
    rcases mem_setAt hj h.nodup hf with rfl | ⟨hf, hne⟩
    · exact hnew
    · rw [hoth _ hne]; exact h.have_ f hf
  nodup := by rw [setAt_map]; exact h.nodup

theorem setCell_row (w : World) (b i : Nat) (cs : List Value) (t : TypeId) (v : Value) (h : w.heap[b]? = some (.cells cs.toArray t (0, 0))) :
    (w.setCell ⟨b, i, none⟩ v).heap[b]? = some (.cells (cs.set i v).toArray t (0, 0)) := by
  simp [World.setCell, Array.getElem?_modify, h]

theorem Mem.setCell {w0 w : World} {L : List Blk} (h : Mem w0 w L) {j : Nat} {b : Nat} {t : TypeId} {cs : List Value} (hj : L[j]? = some ⟨b, t, cs⟩) (i : Nat) (v : Value) :
    Mem w0 (w.setCell ⟨b, i, none⟩ v) (setAt L j (cs.set i v)) :=
  h.write hj _ rfl rfl rfl (by simp [World.setCell]) (fun k hk => Below.heap_setCell _ _ _ _ hk) (setCell_row w b i cs t v (h.have_ _ (mem_of_get hj)))

theorem Mem.cell {w0 w : World} {L : List Blk} (h : Mem w0 w L) {j : Nat} {b : Nat} {t : TypeId} {cs : List Value} (hj : L[j]? = some ⟨b, t, cs⟩) (i : Nat) :
    w.cell? ⟨b, i, none⟩ = cs[i]? := by
  have := h.have_ _ (mem_of_get hj)
  simp only at this
  simp [World.cell?, this]

theorem Mem.frozen {w0 w : World} {L : List Blk} (h : Mem w0 w L) {j : Nat} {b : Nat} {t : TypeId} {cs : List Value} (hj : L[j]? = some ⟨b, t, cs⟩) (i : Nat) :
    w.frozen? ⟨b, i, none⟩ = false := by
  have := h.have_ _ (mem_of_get hj)
  simp only at this
  simp [World.frozen?, this]

/-- A cell of a block that is none of the known ones reads as it did at the call's beginning. -/
theorem Mem.outer {w0 w : World} {L : List Blk} (h : Mem w0 w L) {a : Addr} (ha : a.block < w0.heap.size) (hne : ∀ e ∈ L, e.b ≠ a.block) : w.cell? a = w0.cell? a := by
  have := h.old a.block ha hne
  unfold World.cell?
  rw [this]

/-- A callee that leaves all that it found as it was. -/
theorem Mem.after {w0 w w' : World} {L : List Blk} (h : Mem w0 w L) (h' : Mem w w' []) : Mem w0 w' L where
  os := h'.os.trans h.os
  tape := h'.tape.trans h.tape
  output := h'.output.trans h.output
  size := Nat.le_trans h.size h'.size
  old := by
    intro k hk hne
    rw [h'.old k (Nat.lt_of_lt_of_le hk h.size) (fun _ h => by cases h)]
    exact h.old k hk hne
  have_ := by
    intro e he
    rw [h'.old e.b (h.lt he) (fun _ h => by cases h)]
    exact h.have_ e he
  nodup := h.nodup

/-- A callee that hands back one new block. -/
theorem Mem.after1 {w0 w w' : World} {L : List Blk} {b : Nat} {t : TypeId} {cs : List Value} (h : Mem w0 w L) (h' : Mem w w' [⟨b, t, cs⟩]) (hb : w.heap.size ≤ b) : Mem w0 w' (⟨b, t, cs⟩ :: L) where
  os := h'.os.trans h.os
  tape := h'.tape.trans h.tape
  output := h'.output.trans h.output
  size := Nat.le_trans h.size h'.size
  old := by
    intro k hk hne
    rw [h'.old k (Nat.lt_of_lt_of_le hk h.size) (fun e he => by simp only [List.mem_singleton] at he; subst he; have := h.size; simp only; omega)]
    exact h.old k hk (fun e he => hne e (List.mem_cons_of_mem _ he))
  have_ := by
    intro e he
    rcases List.mem_cons.1 he with rfl | he
    · exact h'.have_ _ (by simp)
    · rw [h'.old e.b (h.lt he) (fun f hf => by simp only [List.mem_singleton] at hf; subst hf; have := h.lt he; simp only; omega)]
      exact h.have_ e he
  nodup := by
    simp only [List.map_cons, List.nodup_cons]
    refine ⟨?_, h.nodup⟩
    intro hm
    obtain ⟨e, he, hb'⟩ := List.mem_map.1 hm
    have := h.lt he
    omega

/-- A callee that writes one block that we know. -/
theorem Mem.wrote {w0 w w' : World} {L : List Blk} {j b : Nat} {t : TypeId} {cs cs' : List Value} (h : Mem w0 w L) (hj : L[j]? = some ⟨b, t, cs⟩) (h' : Mem w w' [⟨b, t, cs'⟩]) :
    Mem w0 w' (setAt L j cs') where
  os := h'.os.trans h.os
  tape := h'.tape.trans h.tape
  output := h'.output.trans h.output
  size := Nat.le_trans h.size h'.size
  old := by
    intro k hk hne
    have hb : ∀ f ∈ L, f.b ≠ k := by
      intro f hf hfk
      have : k ∈ (setAt L j cs').map (·.b) := by rw [setAt_map]; exact hfk ▸ List.mem_map_of_mem hf
      obtain ⟨g, hg, hgk⟩ := List.mem_map.1 this
      exact hne g hg hgk
    rw [h'.old k (Nat.lt_of_lt_of_le hk h.size) (fun e he => by simp only [List.mem_singleton] at he; subst he; exact hb ⟨b, t, cs⟩ (mem_of_get hj))]
    exact h.old k hk hb
  have_ := by
    intro f hf
    rcases mem_setAt hj h.nodup hf with rfl | ⟨hf, hne⟩
    · exact h'.have_ _ (by simp)
    · rw [h'.old f.b (h.lt hf) (fun g hg => by simp only [List.mem_singleton] at hg; subst hg; exact fun e => hne e.symm)]
      exact h.have_ f hf
  nodup := by rw [setAt_map]; exact h.nodup

end Go.Sym
