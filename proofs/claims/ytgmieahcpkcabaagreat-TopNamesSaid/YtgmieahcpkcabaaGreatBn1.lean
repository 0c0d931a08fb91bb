import Derived.WalkKit
import Derived.Deep.LoopGhost
namespace Go.Sym
open Go Go.RowKit
theorem wrap_unsigned (k : IntKind) (n : Int) (hs : k.signed = false) : k.wrap n = ((BitVec.ofInt k.bits n).toNat : Int) := by
  rw [BitVec.toNat_ofInt]
  cases k <;> simp [IntKind.wrap, IntKind.signed, IntKind.bits] at hs ⊢ <;> omega
def U (x : BitVec 64) : Value := .int .u64 (x.toNat : Int)
def W (x : BitVec 32) : Value := .int .u32 (x.toNat : Int)
def B (x : BitVec 8) : Value := .int .u8 (x.toNat : Int)
def I (x : BitVec 64) : Value := .int .i64 x.toInt
def N (n : Nat) : Value := .int .i64 (n : Int)
def ptr (b off : Nat) : Value := .pointer (some ⟨b, off, none⟩)
theorem wrapU (n : Int) : IntKind.u64.wrap n = ((BitVec.ofInt 64 n).toNat : Int) := wrap_unsigned .u64 n rfl
theorem wrapW (n : Int) : IntKind.u32.wrap n = ((BitVec.ofInt 32 n).toNat : Int) := wrap_unsigned .u32 n rfl
theorem wrapB (n : Int) : IntKind.u8.wrap n = ((BitVec.ofInt 8 n).toNat : Int) := wrap_unsigned .u8 n rfl
theorem ofInt_nat {w : Nat} (x : BitVec w) : BitVec.ofInt w (x.toNat : Int) = x := by simp
def put (E : Nat → Option Value) (d : Nat) (v : Value) : Nat → Option Value := fun i => bif Nat.beq i d then some v else E i
theorem beq_self (i : Nat) : Nat.beq i i = true := by simp
theorem beq_ne {i d : Nat} (h : i ≠ d) : Nat.beq i d = false := by
  cases hb : Nat.beq i d with
  | false => rfl
  | true => exact absurd (Nat.eq_of_beq_eq_true hb) h
structure Slots (a : Act) (n : Nat) (E : Nat → Option Value) : Prop where
  defers : a.defers = []
  size : a.tmps.size = n
  get : ∀ i v, E i = some v → a.tmps[i]? = some v
def ev (E : Nat → Option Value) : Operand → Option Value
  | .tmp t => E t
  | .const v => some v
  | .global g => some (.pointer (some ⟨g, 0, none⟩))
  | .func f => some (.func (.func f) #[] #[])
theorem Slots.eval {a : Act} {n : Nat} {E : Nat → Option Value} (hS : Slots a n E) {x : Operand} {v : Value} (h : ev E x = some v) : a.eval x = v := by
  cases x with
  | tmp t =>
    have := hS.get t v h
    simp [Act.eval, this]
  | const c => simpa [ev, Act.eval] using h
  | global g => simpa [ev, Act.eval] using h
  | func f => simpa [ev, Act.eval] using h
theorem Slots.put {a : Act} {n : Nat} {E : Nat → Option Value} (hS : Slots a n E) {d : Nat} (v : Value) (hd : d < n) : Slots (a.put (some d) v) n (Sym.put E d v) where
  defers := hS.defers
  size := by simp [Act.put, hS.size]
  get := by
    intro i u h
    unfold Sym.put at h
    by_cases hi : i = d
    · subst hi
      rw [beq_self] at h
      simp only [cond_true, Option.some.injEq] at h
      subst h
      simp [Act.put, hS.size, hd]
    · rw [beq_ne hi] at h
      simp only [cond_false] at h
      have := hS.get i u h
      simp only [Act.put, Array.getElem?_setIfInBounds]
      rw [if_neg (fun e => hi e.symm)]
      exact this
theorem Slots.put_none {a : Act} {n : Nat} {E : Nat → Option Value} (hS : Slots a n E) (v : Value) : Slots (a.put none v) n E := hS
theorem Slots.weaken {a : Act} {n : Nat} {E E' : Nat → Option Value} (hS : Slots a n E) (h : ∀ i v, E' i = some v → E i = some v) : Slots a n E' :=
  ⟨hS.defers, hS.size, fun i v hv => hS.get i v (h i v hv)⟩
def env : List (Nat × Value) → Nat → Option Value
  | [] => fun _ => none
  | (d, v) :: l => fun i => bif Nat.beq i d then some v else env l i
def allIn (E : Nat → Option Value) : List (Nat × Value) → Prop
  | [] => True
  | (d, v) :: l => E d = some v ∧ allIn E l
theorem Slots.to {a : Act} {n : Nat} {E : Nat → Option Value} (hS : Slots a n E) (l : List (Nat × Value)) (h : allIn E l) : Slots a n (env l) := by
  refine hS.weaken ?_
  induction l with
  | nil => intro i v hv; cases hv
  | cons p l ih =>
    obtain ⟨d, u⟩ := p
    intro i v hv
    unfold env at hv
    by_cases hi : i = d
    · subst hi; rw [beq_self] at hv; simp only [cond_true] at hv; rw [← hv]; exact h.1
    · rw [beq_ne hi] at hv; simp only [cond_false] at hv; exact ih h.2 i v hv
def initE (args : Array Value) : Nat → Option Value := fun i => args[i]?
structure Blk where
  b : Nat
  t : TypeId
  cs : List Value
structure Mem (w0 w : World) (L : List Blk) : Prop where
  os : w.os = w0.os
  tape : w.tape = w0.tape
  output : w.output = w0.output
  size : w0.heap.size ≤ w.heap.size
  old : ∀ k, k < w0.heap.size → (∀ e ∈ L, e.b ≠ k) → w.heap[k]? = w0.heap[k]?
  have_ : ∀ e ∈ L, w.heap[e.b]? = some (.cells e.cs.toArray e.t (0, 0))
  nodup : (L.map (·.b)).Nodup
theorem Mem.refl (w : World) : Mem w w [] := ⟨rfl, rfl, rfl, Nat.le_refl _, fun _ _ _ => rfl, fun _ h => by (cases h), List.nodup_nil⟩
theorem Mem.below {w0 w : World} (h : Mem w0 w []) : Below w0.heap.size w0 w := ⟨h.os, h.tape, h.output, h.size, fun k hk => h.old k hk (fun _ h => by cases h)⟩
theorem Mem.drawn {w0 w : World} {L : List Blk} (h : Mem w0 w L) (n : Nat) : Mem w0 { w with drawn := n } L := ⟨h.os, h.tape, h.output, h.size, h.old, h.have_, h.nodup⟩
theorem Mem.lt {w0 w : World} {L : List Blk} (h : Mem w0 w L) {e : Blk} (he : e ∈ L) : e.b < w.heap.size := by
  have := h.have_ e he
  by_cases hlt : e.b < w.heap.size
  · exact hlt
  · have hn : w.heap[e.b]? = none := by simp; omega
    rw [hn] at this; cases this
theorem mem_of_get {L : List Blk} {j : Nat} {e : Blk} (h : L[j]? = some e) : e ∈ L := List.mem_of_getElem? h
theorem Mem.alloc {w0 w : World} {L : List Blk} (h : Mem w0 w L) (t : TypeId) (cs : List Value) :
    Mem w0 (w.alloc (.cells cs.toArray t (0, 0))) (⟨w.heap.size, t, cs⟩ :: L) where
  os := h.os
  tape := h.tape
  output := h.output
  size := by have := h.size; simp; omega
  old := by
    intro k hk hne
    rw [Below.heap_alloc _ _ _ (by have := h.size; omega)]
    exact h.old k hk (fun e he => hne e (List.mem_cons_of_mem _ he))
  have_ := by
    intro e he
    rcases List.mem_cons.1 he with rfl | he
    · exact heap_alloc_new w _
    · rw [Below.heap_alloc _ _ _ (h.lt he)]; exact h.have_ e he
  nodup := by
    simp only [List.map_cons, List.nodup_cons]
    refine ⟨?_, h.nodup⟩
    intro hm
    obtain ⟨e, he, hb⟩ := List.mem_map.1 hm
    have := h.lt he
    omega
theorem Mem.drop {w0 w : World} {L : List Blk} {e : Blk} (h : Mem w0 w (e :: L)) (he : w0.heap.size ≤ e.b) : Mem w0 w L where
  os := h.os
  tape := h.tape
  output := h.output
  size := h.size
  old := by
    intro k hk hne
    refine h.old k hk (fun f hf => ?_)
    rcases List.mem_cons.1 hf with rfl | hf
    · omega
    · exact hne f hf
  have_ := fun f hf => h.have_ f (List.mem_cons_of_mem _ hf)
  nodup := by have := h.nodup; simp only [List.map_cons, List.nodup_cons] at this; exact this.2
theorem Mem.dropAll {w0 w : World} : ∀ {L : List Blk}, Mem w0 w L → (∀ e ∈ L, w0.heap.size ≤ e.b) → Mem w0 w []
  | [], h, _ => h
  | e :: _, h, hb => Mem.dropAll (h.drop (hb e (List.mem_cons_self))) (fun f hf => hb f (List.mem_cons_of_mem _ hf))
theorem modify_get? {α : Type} (xs : Array α) (i j : Nat) (f : α → α) : (xs.modify i f)[j]? = if i = j then (xs[j]?).map f else xs[j]? := by
  rw [Array.getElem?_modify]
def setAt : List Blk → Nat → List Value → List Blk
  | [], _, _ => []
  | ⟨b, t, _⟩ :: L, 0, cs => ⟨b, t, cs⟩ :: L
  | e :: L, j + 1, cs => e :: setAt L j cs
theorem setAt_map : ∀ (L : List Blk) (j : Nat) (cs : List Value), (setAt L j cs).map (·.b) = L.map (·.b)
  | [], _, _ => rfl
  | ⟨_, _, _⟩ :: _, 0, _ => rfl
  | e :: L, j + 1, cs => by simp only [setAt, List.map_cons, setAt_map L j cs]
theorem setAt_get : ∀ {L : List Blk} {j : Nat} {e : Blk} (cs : List Value), L[j]? = some e → (setAt L j cs)[j]? = some ⟨e.b, e.t, cs⟩
  | [], _, _, _, h => by cases h
  | ⟨_, _, _⟩ :: _, 0, _, _, h => by simp at h; subst h; rfl
  | _ :: L, j + 1, _, cs, h => by
    simp only [setAt, List.getElem?_cons_succ] at h ⊢
    exact setAt_get cs h
theorem setAt_setAt : ∀ (L : List Blk) (j : Nat) (cs cs' : List Value), setAt (setAt L j cs) j cs' = setAt L j cs'
  | [], _, _, _ => rfl
  | ⟨_, _, _⟩ :: _, 0, _, _ => rfl
  | e :: L, j + 1, cs, cs' => by simp only [setAt, setAt_setAt L j cs cs']
theorem setAt_same : ∀ {L : List Blk} {j : Nat} {e : Blk}, L[j]? = some e → setAt L j e.cs = L
  | [], _, _, h => by cases h
  | ⟨_, _, _⟩ :: _, 0, _, h => by simp at h; subst h; rfl
  | _ :: L, j + 1, _, h => by
    simp only [setAt, List.getElem?_cons_succ] at h ⊢
    rw [setAt_same h]
theorem mem_setAt : ∀ {L : List Blk} {j : Nat} {cs : List Value} {e : Blk}, L[j]? = some e → (L.map (·.b)).Nodup → ∀ {f : Blk}, f ∈ setAt L j cs →
    (f = ⟨e.b, e.t, cs⟩) ∨ (f ∈ L ∧ f.b ≠ e.b)
  | [], _, _, _, h, _, _, _ => by cases h
  | ⟨_, _, _⟩ :: L, 0, cs, e, h, hn, f, hf => by
    simp at h; subst h
    simp only [List.map_cons, List.nodup_cons] at hn
    simp only [setAt, List.mem_cons] at hf
    rcases hf with rfl | hf
    · exact .inl rfl
    · exact .inr ⟨List.mem_cons_of_mem _ hf, fun e => hn.1 (by have h := List.mem_map_of_mem (f := fun x : Blk => x.b) hf; simp only [e] at h; exact h)⟩
  | g :: L, j + 1, cs, e, h, hn, f, hf => by
    simp only [List.map_cons, List.nodup_cons] at hn
    simp only [setAt, List.getElem?_cons_succ, List.mem_cons] at h hf
    rcases hf with rfl | hf
    · exact .inr ⟨List.mem_cons_self, fun e => hn.1 (e ▸ List.mem_map_of_mem (List.mem_of_getElem? h))⟩
    · rcases mem_setAt h hn.2 hf with h' | ⟨h1, h2⟩
      · exact .inl h'
      · exact .inr ⟨List.mem_cons_of_mem _ h1, h2⟩
def allGe (m : Nat) : List Blk → Prop
  | [] => True
  | e :: L => m ≤ e.b ∧ allGe m L
def allNe (b : Nat) : List Blk → Prop
  | [] => True
  | e :: L => e.b ≠ b ∧ allNe b L
theorem allGe_spec {m : Nat} : ∀ {L : List Blk}, allGe m L → ∀ e ∈ L, m ≤ e.b
  | [], _, _, h => by cases h
  | _ :: _, h, e, he => by
    rcases List.mem_cons.1 he with rfl | he
    · exact h.1
    · exact allGe_spec h.2 e he
theorem allNe_spec {b : Nat} : ∀ {L : List Blk}, allNe b L → ∀ e ∈ L, e.b ≠ b
  | [], _, _, h => by cases h
  | _ :: _, h, e, he => by
    rcases List.mem_cons.1 he with rfl | he
    · exact h.1
    · exact allNe_spec h.2 e he
theorem ne_fresh {b b' m : Nat} (h : b < m) (h' : m ≤ b') : b' ≠ b := by omega
theorem Mem.done {w0 w : World} {L : List Blk} (h : Mem w0 w L) (hb : allGe w0.heap.size L) : Mem w0 w [] := h.dropAll (allGe_spec hb)
theorem Mem.congr {w0 w : World} {L L' : List Blk} (h : Mem w0 w L) (e : L = L') : Mem w0 w L' := e ▸ h
theorem Mem.write {w0 w w' : World} {L : List Blk} (h : Mem w0 w L) {j : Nat} {e : Blk} (hj : L[j]? = some e) (cs : List Value)
    (hos : w'.os = w.os) (htape : w'.tape = w.tape) (hout : w'.output = w.output) (hsz : w'.heap.size = w.heap.size)
    (hoth : ∀ k, k ≠ e.b → w'.heap[k]? = w.heap[k]?) (hnew : w'.heap[e.b]? = some (.cells cs.toArray e.t (0, 0))) : Mem w0 w' (setAt L j cs) where
  os := hos.trans h.os
  tape := htape.trans h.tape
  output := hout.trans h.output
  size := by rw [hsz]; exact h.size
  old := by
    intro k hk hne
    have hb : ∀ f ∈ L, f.b ≠ k := by
      intro f hf hfk
      have : k ∈ (setAt L j cs).map (·.b) := by rw [setAt_map]; exact hfk ▸ List.mem_map_of_mem hf
      obtain ⟨g, hg, hgk⟩ := List.mem_map.1 this
      exact hne g hg hgk
    rw [hoth k (fun hke => hb e (mem_of_get hj) hke.symm)]
    exact h.old k hk hb
  have_ := by
    intro f hf
    rcases mem_setAt hj h.nodup hf with rfl | ⟨hf, hne⟩
    · exact hnew
    · rw [hoth _ hne]; exact h.have_ f hf
  nodup := by rw [setAt_map]; exact h.nodup
theorem setCell_row (w : World) (b i : Nat) (cs : List Value) (t : TypeId) (v : Value) (h : w.heap[b]? = some (.cells cs.toArray t (0, 0))) :
    (w.setCell ⟨b, i, none⟩ v).heap[b]? = some (.cells (cs.set i v).toArray t (0, 0)) := by
  simp [World.setCell, Array.getElem?_modify, h]
theorem Mem.setCell {w0 w : World} {L : List Blk} (h : Mem w0 w L) {j : Nat} {b : Nat} {t : TypeId} {cs : List Value} (hj : L[j]? = some ⟨b, t, cs⟩) (i : Nat) (v : Value) :
    Mem w0 (w.setCell ⟨b, i, none⟩ v) (setAt L j (cs.set i v)) :=
  h.write hj _ rfl rfl rfl (by simp [World.setCell]) (fun k hk => Below.heap_setCell _ _ _ _ hk) (setCell_row w b i cs t v (h.have_ _ (mem_of_get hj)))
theorem Mem.cell {w0 w : World} {L : List Blk} (h : Mem w0 w L) {j : Nat} {b : Nat} {t : TypeId} {cs : List Value} (hj : L[j]? = some ⟨b, t, cs⟩) (i : Nat) :
    w.cell? ⟨b, i, none⟩ = cs[i]? := by
  have := h.have_ _ (mem_of_get hj)
  simp only at this
  simp [World.cell?, this]
theorem Mem.frozen {w0 w : World} {L : List Blk} (h : Mem w0 w L) {j : Nat} {b : Nat} {t : TypeId} {cs : List Value} (hj : L[j]? = some ⟨b, t, cs⟩) (i : Nat) :
    w.frozen? ⟨b, i, none⟩ = false := by
  have := h.have_ _ (mem_of_get hj)
  simp only at this
  simp [World.frozen?, this]
theorem Mem.outer {w0 w : World} {L : List Blk} (h : Mem w0 w L) {a : Addr} (ha : a.block < w0.heap.size) (hne : ∀ e ∈ L, e.b ≠ a.block) : w.cell? a = w0.cell? a := by
  have := h.old a.block ha hne
  unfold World.cell?
  rw [this]
theorem Mem.after {w0 w w' : World} {L : List Blk} (h : Mem w0 w L) (h' : Mem w w' []) : Mem w0 w' L where
  os := h'.os.trans h.os
  tape := h'.tape.trans h.tape
  output := h'.output.trans h.output
  size := Nat.le_trans h.size h'.size
  old := by
    intro k hk hne
    rw [h'.old k (Nat.lt_of_lt_of_le hk h.size) (fun _ h => by cases h)]
    exact h.old k hk hne
  have_ := by
    intro e he
    rw [h'.old e.b (h.lt he) (fun _ h => by cases h)]
    exact h.have_ e he
  nodup := h.nodup
theorem Mem.after1 {w0 w w' : World} {L : List Blk} {b : Nat} {t : TypeId} {cs : List Value} (h : Mem w0 w L) (h' : Mem w w' [⟨b, t, cs⟩]) (hb : w.heap.size ≤ b) : Mem w0 w' (⟨b, t, cs⟩ :: L) where
  os := h'.os.trans h.os
  tape := h'.tape.trans h.tape
  output := h'.output.trans h.output
  size := Nat.le_trans h.size h'.size
  old := by
    intro k hk hne
    rw [h'.old k (Nat.lt_of_lt_of_le hk h.size) (fun e he => by simp only [List.mem_singleton] at he; subst he; have := h.size; simp only; omega)]
    exact h.old k hk (fun e he => hne e (List.mem_cons_of_mem _ he))
  have_ := by
    intro e he
    rcases List.mem_cons.1 he with rfl | he
    · exact h'.have_ _ (by simp)
    · rw [h'.old e.b (h.lt he) (fun f hf => by simp only [List.mem_singleton] at hf; subst hf; have := h.lt he; simp only; omega)]
      exact h.have_ e he
  nodup := by
    simp only [List.map_cons, List.nodup_cons]
    refine ⟨?_, h.nodup⟩
    intro hm
    obtain ⟨e, he, hb'⟩ := List.mem_map.1 hm
    have := h.lt he
    omega
theorem Mem.wrote {w0 w w' : World} {L : List Blk} {j b : Nat} {t : TypeId} {cs cs' : List Value} (h : Mem w0 w L) (hj : L[j]? = some ⟨b, t, cs⟩) (h' : Mem w w' [⟨b, t, cs'⟩]) :
    Mem w0 w' (setAt L j cs') where
  os := h'.os.trans h.os
  tape := h'.tape.trans h.tape
  output := h'.output.trans h.output
  size := Nat.le_trans h.size h'.size
  old := by
    intro k hk hne
    have hb : ∀ f ∈ L, f.b ≠ k := by
      intro f hf hfk
      have : k ∈ (setAt L j cs').map (·.b) := by rw [setAt_map]; exact hfk ▸ List.mem_map_of_mem hf
      obtain ⟨g, hg, hgk⟩ := List.mem_map.1 this
      exact hne g hg hgk
    rw [h'.old k (Nat.lt_of_lt_of_le hk h.size) (fun e he => by simp only [List.mem_singleton] at he; subst he; exact hb ⟨b, t, cs⟩ (mem_of_get hj))]
    exact h.old k hk hb
  have_ := by
    intro f hf
    rcases mem_setAt hj h.nodup hf with rfl | ⟨hf, hne⟩
    · exact h'.have_ _ (by simp)
    · rw [h'.old f.b (h.lt hf) (fun g hg => by simp only [List.mem_singleton] at hg; subst hg; exact fun e => hne e.symm)]
      exact h.have_ f hf
  nodup := by rw [setAt_map]; exact h.nodup
end Go.Sym
namespace Go.Sym
open Go Go.RowKit
section
variable {P : Program} {Q : Exit → Act → World → Prop} {a : Act} {w w0 : World} {n : Nat} {E : Nat → Option Value} {L : List Blk} {ops : Array Oper} {rest : List Oper}
theorem k_then {K : Act → World → Prop} (h : K a w) : Exit.then K Q .normal a w := h
theorem k_thenx {K : Act → World → Prop} {id : Nat} (h : Q (.exit id) a w) : Exit.then K Q (.exit id) a w := h
theorem k_thenr {K : Act → World → Prop} (h : Q .ret a w) : Exit.then K Q .ret a w := h
theorem k_in {id : Nat} (h : Q .normal a w) : Exit.inBlock id Q .normal a w := h
theorem k_inx {id : Nat} (h : Q .normal a w) : Exit.inBlock id Q (.exit id) a w := by simp only [Exit.inBlock, if_true]; exact h
theorem k_iny {id id' : Nat} (hne : (id' == id) = false) (h : Q (.exit id') a w) : Exit.inBlock id Q (.exit id') a w := by
  have : id' ≠ id := by simpa using hne
  simp only [Exit.inBlock, if_neg this]; exact h
theorem k_inr {id : Nat} (h : Q .ret a w) : Exit.inBlock id Q .ret a w := h
theorem k_seq {y : Code} {Q' : Exit → Act → World → Prop} (h : y.wp P Q' a w) : Exit.then (y.wp P Q') Q .normal a w := h
theorem c_seq {x y : Code} (h : x.wp P (Exit.then (y.wp P Q) Q) a w) : (Code.seq x y).wp P Q a w := wp_seq h
theorem c_block {id : Nat} {c : Code} (h : c.wp P (Exit.inBlock id Q) a w) : (Code.block id c).wp P Q a w := wp_block h
theorem c_skip (h : Q .normal a w) : Code.skip.wp P Q a w := wp_skip h
theorem c_ret (h : Q .ret a w) : Code.ret.wp P Q a w := wp_ret h
theorem c_exit {id : Nat} (h : Q (.exit id) a w) : (Code.exit id).wp P Q a w := wp_exit h
theorem c_region {id : Nat} {l : List Oper} (h : wpList P l.toArray Q l a w) : (Code.region id l.toArray false).wp P Q a w := wp_region_lit h
theorem c_cond {c : Operand} {x y : Code} {t : Bool} (hS : Slots a n E) (hc : ev E c = some (.bool t)) (ht : t = true → x.wp P Q a w) (hf : t = false → y.wp P Q a w) : (Code.cond c x y).wp P Q a w :=
  wp_cond_split (hS.eval hc) ht hf
theorem c_true {c : Operand} {x y : Code} {t : Bool} (hS : Slots a n E) (hc : ev E c = some (.bool t)) (ht : t = true) (h : x.wp P Q a w) : (Code.cond c x y).wp P Q a w :=
  wp_cond_true (by rw [hS.eval hc, ht]) h
theorem c_false {c : Operand} {x y : Code} {t : Bool} (hS : Slots a n E) (hc : ev E c = some (.bool t)) (ht : t = false) (h : y.wp P Q a w) : (Code.cond c x y).wp P Q a w :=
  wp_cond_false (by rw [hS.eval hc, ht]) h
theorem c_loop {σ : Type} (J : σ → Act → World → Prop) (m : σ → Nat) (s0 : σ) {c : Code} (h0 : J s0 a w)
    (round : ∀ s a w, J s a w → c.wp P (Exit.then (fun a' w' => ∃ s', m s' < m s ∧ J s' a' w') Q) a w) : (Code.loop c).wp P Q a w := by
  refine wp_loop_ghost (fun n a w => ∃ s, m s = n ∧ J s a w) (m s0) ⟨s0, rfl, h0⟩ ?_
  rintro n a w ⟨s, rfl, hJ⟩
  refine wp_mono (round s a w hJ) ?_
  intro e a' w' hq
  cases e with
  | normal => obtain ⟨s', h1, h2⟩ := hq; exact ⟨m s', h1, s', rfl, h2⟩
  | exit id => exact hq
  | goto l => exact hq
  | ret => exact hq
  | panic ch => exact hq
  | outgrown => exact hq
theorem calls_sym {f : FuncId} {fn : Func} {c : Code} {args : Array Value} {R : Ending → World → Prop} (hf : P.funcs[f]? = some fn) (hb : fn.body = some c) (hn' : Nat.ble args.size fn.ntmps = true)
    (h : ∀ a, Slots a fn.ntmps (initE args) → c.wp P (bodyPost P fn R) a w) : Calls P f args w R := by
  have hn : args.size ≤ fn.ntmps := Nat.le_of_ble_eq_true hn'
  refine calls_of_wp hf hb (h _ ⟨rfl, by simp; omega, ?_⟩)
  intro i v hi
  unfold initE at hi
  have hlt : i < args.size := (Array.getElem?_eq_some_iff.1 hi).1
  simp only [Array.getElem?_append, hlt, if_true]
  exact hi
def aggB : TypeDesc → Bool
  | .struct _ | .array _ _ => true
  | _ => false
theorem run_isAgg {t : TypeId} {d : TypeDesc} (hu : P.underlying t = some d) (w : World) : (isAgg t).run P w = .ok (aggB d) w := by
  unfold isAgg
  rw [Sem.run_bind, run_underlying hu w]
  cases d <;> rfl
theorem run_sizeOf {t : TypeId} {s : Nat} (hi : (P.info? t).map (·.size) = some s) (w : World) : (sizeOf t).run P w = .ok s w := by
  cases hq : P.info? t with
  | none => simp [hq] at hi
  | some i =>
    have hs : i.size = s := by simpa [hq] using hi
    simp [sizeOf, typeInfo, hq, hs]
theorem run_loadRow {t : TypeId} {d : TypeDesc} {b off : Nat} {cs : List Value} (hu : P.underlying t = some d) (hd : aggB d = true) (hi : (P.info? t).map (·.size) = some cs.length)
    (hc : ∀ j v, cs[j]? = some v → w.cell? ⟨b, off + j, none⟩ = some v) : (loadVar t ⟨b, off, none⟩).run P w = .ok (.agg cs.toArray) w := by
  have hl : (loadCells ⟨b, off, none⟩ cs.length).run P w = .ok cs.toArray w :=
    run_loadCells_list (P := P) w ⟨b, off, none⟩ cs (fun j v hv => by
      have hadd : (⟨b, off, none⟩ : Addr).add j = ⟨b, off + j, none⟩ := Addr.add_lit ..
      rw [hadd]
      exact hc j v hv)
  simp [loadVar, run_isAgg hu w, hd, run_sizeOf hi w, hl]
theorem run_loadOne {t : TypeId} {d : TypeDesc} {a : Addr} {v : Value} (hu : P.underlying t = some d) (hd : aggB d = false) (hc : w.cell? a = some v) : (loadVar t a).run P w = .ok v w := by
  simp [loadVar, run_isAgg hu w, hd, hc]
theorem row_cell {b : Nat} {t : TypeId} {cs : List Value} (h : w.heap[b]? = some (.cells cs.toArray t (0, 0))) (j : Nat) : w.cell? ⟨b, j, none⟩ = cs[j]? := by
  simp [World.cell?, h]
inductive RV (P : Program) (w : World) (E : Nat → Option Value) : ResultVar → Value → Prop where
  | tmp {t : Nat} {v : Value} : E t = some v → RV P w E (.tmp t) v
  | row {p : Nat} {ty : TypeId} {b : Nat} {t : TypeId} {cs : List Value} {d : TypeDesc} : E p = some (ptr b 0) → w.heap[b]? = some (.cells cs.toArray t (0, 0)) → P.underlying ty = some d →
      aggB d = true → (P.info? ty).map (·.size) = some cs.length → RV P w E (.cell p ty) (.agg cs.toArray)
  | one {p : Nat} {ty : TypeId} {b : Nat} {t : TypeId} {v : Value} {d : TypeDesc} : E p = some (ptr b 0) → w.heap[b]? = some (.cells [v].toArray t (0, 0)) → P.underlying ty = some d →
      aggB d = false → RV P w E (.cell p ty) v
theorem RV.run {rv : ResultVar} {v : Value} (hS : Slots a n E) (h : RV P w E rv v) :
    (∃ t, rv = .tmp t ∧ a.tmps[t]?.getD undef = v) ∨ (∃ p ty ad, rv = .cell p ty ∧ a.tmps[p]?.getD undef = .pointer (some ad) ∧ (loadVar ty ad).run P w = .ok v w) := by
  cases h with
  | tmp h => exact .inl ⟨_, rfl, by rw [hS.get _ _ h]; rfl⟩
  | row hp hc hu hd hi => exact .inr ⟨_, _, _, rfl, by rw [hS.get _ _ hp]; rfl, run_loadRow hu hd hi (fun j v hv => by rw [Nat.zero_add, row_cell hc]; exact hv)⟩
  | one hp hc hu hd => exact .inr ⟨_, _, _, rfl, by rw [hS.get _ _ hp]; rfl, run_loadOne hu hd (by rw [row_cell hc]; rfl)⟩
theorem k_res1 {fn : Func} {R : Ending → World → Prop} {rv : ResultVar} {v : Value} (hS : Slots a n E) (hr : fn.results = #[rv]) (h : RV P w E rv v) (hR : R (.returned v) w) : bodyPost P fn R .ret a w := by
  refine ⟨hS.defers, v, ?_, hR⟩
  unfold results
  rw [hr]
  rcases h.run hS with ⟨t, rfl, ht⟩ | ⟨p, ty, ad, rfl, hp, hl⟩
  · simp [ht]
  · simp [hp, asAddr, hl]
theorem k_res2 {fn : Func} {R : Ending → World → Prop} {rv rv' : ResultVar} {v v' : Value} (hS : Slots a n E) (hr : fn.results = #[rv, rv']) (h : RV P w E rv v) (h' : RV P w E rv' v')
    (hR : R (.returned (.tuple #[v, v'])) w) : bodyPost P fn R .ret a w := by
  refine ⟨hS.defers, .tuple #[v, v'], ?_, hR⟩
  unfold results
  rw [hr]
  rcases h.run hS with ⟨t, rfl, ht⟩ | ⟨p, ty, ad, rfl, hp, hl⟩ <;> rcases h'.run hS with ⟨t', rfl, ht'⟩ | ⟨p', ty', ad', rfl, hp', hl'⟩
  · simp [ht, ht']
  · simp [ht, hp', asAddr, hl']
  · simp [hp, asAddr, hl, ht']
  · simp [hp, asAddr, hl, hp', hl']
theorem k_res0 {fn : Func} {R : Ending → World → Prop} (hS : Slots a n E) (hr : fn.results = #[]) (hR : R (.returned (.tuple #[])) w) : bodyPost P fn R .ret a w := by
  refine ⟨hS.defers, .tuple #[], ?_, hR⟩
  unfold results
  rw [hr]
  simp
theorem k_res0n {fn : Func} {R : Ending → World → Prop} (hS : Slots a n E) (hr : fn.results = #[]) (hR : R (.returned (.tuple #[])) w) : bodyPost P fn R .normal a w := k_res0 (P := P) hS hr hR
def Run (P : Program) (a : Act) (o : Oper) (w : World) (v : Value) : Prop := (execOp a.eval o).run P w = .ok (.value v) w
theorem s_val {o : Oper} {d : Nat} {v : Value} (hS : Slots a n E) (hd : d < n) (ho : o.dst = some d) (hg : o.guard = none) (hr : Run P a o w v)
    (h : ∀ a, Slots a n (put E d v) → wpList P ops Q rest a w) : wpList P ops Q (o :: rest) a w := by
  refine wpList_plain hg (fun K hK => ?_)
  unfold Oper.wp
  rw [hr, Oper.upon_value, ho]
  exact hK _ _ (h _ (hS.put v hd))
theorem s_nil (h : Q .normal a w) : wpList P ops Q [] a w := h
theorem s_valg {o : Oper} {d j dj : Nat} {b : Bool} {oj : Oper} {v : Value} (hS : Slots a n E) (hd : d < n) (ho : o.dst = some d) (hg : o.guard = some (j, b)) (hj : ops[j]? = some oj) (hdj : oj.dst = some dj)
    (hb : E dj = some (.bool b)) (hr : Run P a o w v)
    (h : ∀ a, Slots a n (put E d v) → wpList P ops Q rest a w) : wpList P ops Q (o :: rest) a w := by
  have hw : Region.wanted o (yielded ops a.tmps) = true := by
    have := hS.get _ _ hb
    simp [Region.wanted, hg, yielded, hj, hdj, this]
  refine wpList_step (fun K hK => ?_)
  rw [if_pos hw]
  unfold Oper.wp
  rw [hr, Oper.upon_value, ho]
  exact hK _ _ (h _ (hS.put v hd))
theorem s_skip {o : Oper} {d j dj : Nat} {b : Bool} {oj : Oper} (hS : Slots a n E) (hd : d < n) (ho : o.dst = some d) (hg : o.guard = some (j, b)) (hj : ops[j]? = some oj) (hdj : oj.dst = some dj)
    (hb : E dj = some (.bool !b)) (h : ∀ a, Slots a n (put E d undef) → wpList P ops Q rest a w) : wpList P ops Q (o :: rest) a w := by
  have hw : Region.wanted o (yielded ops a.tmps) = false := by
    have := hS.get _ _ hb
    simp [Region.wanted, hg, yielded, hj, hdj, this]
  refine wpList_skip hw ?_
  rw [ho]
  exact h _ (hS.put undef hd)
variable {dst : Option Nat} {ty : TypeId} {pos : String} {af : Array Edge} {g : Option (Nat × Bool)}
theorem r_move {x : Operand} {v : Value} (hS : Slots a n E) (hx : ev E x = some v) : Run P a ⟨dst, .move x, ty, pos, af, g⟩ w v := by
  simp [Run, execOp, hS.eval hx]
theorem r_assign {x : Operand} {v : Value} (hS : Slots a n E) (hx : ev E x = some v) : Run P a ⟨dst, .assign x, ty, pos, af, g⟩ w v := by
  simp [Run, execOp, hS.eval hx]
theorem r_pick {c x y : Operand} {b : Bool} {v : Value} (hS : Slots a n E) (hc : ev E c = some (.bool b)) (hx : ev E (if b then x else y) = some v) : Run P a ⟨dst, .pick c x y, ty, pos, af, g⟩ w v := by
  cases b
  · simp only [Bool.false_eq_true, if_false] at hx
    simp [Run, execOp, hS.eval hc, hS.eval hx, asBool]
  · simp only [if_true] at hx
    simp [Run, execOp, hS.eval hc, hS.eval hx, asBool]
theorem r_not {t : TypeId} {x : Operand} {b : Bool} (hS : Slots a n E) (hx : ev E x = some (.bool b)) : Run P a ⟨dst, .unOp .not t x, ty, pos, af, g⟩ w (.bool !b) := by
  simp [Run, execOp, hS.eval hx, Op.unary]
theorem r_extract {x : Operand} {vs : Array Value} {i : Nat} {v : Value} (hS : Slots a n E) (hx : ev E x = some (.tuple vs)) (hv : vs[i]? = some v) : Run P a ⟨dst, .extract x i, ty, pos, af, g⟩ w v := by
  simp [Run, execOp, hS.eval hx, Instr.extract, hv]
end
end Go.Sym
namespace Go.Sym
open Go Go.RowKit
theorem ofInt_add {w : Nat} (x y : Int) : BitVec.ofInt w (x + y) = BitVec.ofInt w x + BitVec.ofInt w y := BitVec.ofInt_add ..
theorem ofInt_mul {w : Nat} (x y : Int) : BitVec.ofInt w (x * y) = BitVec.ofInt w x * BitVec.ofInt w y := BitVec.ofInt_mul ..
theorem ofInt_neg {w : Nat} (x : Int) : BitVec.ofInt w (-x) = -BitVec.ofInt w x := BitVec.ofInt_neg
theorem ofInt_sub {w : Nat} (x y : Int) : BitVec.ofInt w (x - y) = BitVec.ofInt w x - BitVec.ofInt w y := by
  rw [Int.sub_eq_add_neg, ofInt_add, ofInt_neg, BitVec.sub_eq_add_neg]
theorem shl_big {w : Nat} (x : BitVec w) (m : Nat) (h : w ≤ m) : x <<< m = 0#w := BitVec.shiftLeft_eq_zero h
theorem ofInt_mul_pow {w : Nat} (x : BitVec w) (m : Nat) : BitVec.ofInt w ((x.toNat : Int) * 2 ^ m) = x <<< m := by
  have h : ((x.toNat : Int) * 2 ^ m) = ((x.toNat * 2 ^ m : Nat) : Int) := by simp
  rw [h, BitVec.ofInt_natCast]
  apply BitVec.eq_of_toNat_eq
  simp [Nat.shiftLeft_eq]
theorem shl_min {w : Nat} (x : BitVec w) (m : Nat) : x <<< (min m w) = x <<< m := by
  rcases Nat.le_total m w with h | h
  · rw [Nat.min_eq_left h]
  · rw [Nat.min_eq_right h, shl_big x w (Nat.le_refl _), shl_big x m h]
theorem shr_min {w : Nat} (x : BitVec w) (m : Nat) : x.toNat / 2 ^ (min m w) = (x >>> m).toNat := by
  rw [BitVec.toNat_ushiftRight, Nat.shiftRight_eq_div_pow]
  rcases Nat.le_total m w with h | h
  · rw [Nat.min_eq_left h]
  · rw [Nat.min_eq_right h, Nat.div_eq_of_lt x.isLt, Nat.div_eq_of_lt (Nat.lt_of_lt_of_le x.isLt (Nat.pow_le_pow_right (by omega) h))]
theorem fdiv_pow_nat (x m : Nat) : (x : Int).fdiv (2 ^ m) = ((x / 2 ^ m : Nat) : Int) := by
  rw [Int.fdiv_eq_ediv_of_nonneg _ (by exact Int.le_of_lt (Int.pow_pos (by decide)))]
  simp
theorem b_addU (t : TypeId) (x y : BitVec 64) : binOp .add t (U x) (U y) = pure (U (x + y)) := by
  unfold U
  rw [binOp_add]
  unfold Op.intArith
  simp only
  rw [wrapU, ofInt_add, ofInt_nat, ofInt_nat]
theorem b_subU (t : TypeId) (x y : BitVec 64) : binOp .sub t (U x) (U y) = pure (U (x - y)) := by
  unfold U
  rw [binOp_sub]
  unfold Op.intArith
  simp only
  rw [wrapU, ofInt_sub, ofInt_nat, ofInt_nat]
theorem b_mulU (t : TypeId) (x y : BitVec 64) : binOp .mul t (U x) (U y) = pure (U (x * y)) := by
  unfold U
  rw [binOp_mul]
  unfold Op.intArith
  simp only
  rw [wrapU, ofInt_mul, ofInt_nat, ofInt_nat]
theorem b_andU (t : TypeId) (x y : BitVec 64) : binOp .and t (U x) (U y) = pure (U (x &&& y)) := by
  unfold U
  rw [binOp_and]
  show (pure (Value.int .u64 (IntKind.u64.wrap ((BitVec.ofInt 64 _ &&& BitVec.ofInt 64 _).toNat : Int))) : Sem Value) = _
  rw [wrapU, ofInt_nat, ofInt_nat, ofInt_nat]
theorem b_orU (t : TypeId) (x y : BitVec 64) : binOp .or t (U x) (U y) = pure (U (x ||| y)) := by
  unfold U
  rw [binOp_or]
  show (pure (Value.int .u64 (IntKind.u64.wrap ((BitVec.ofInt 64 _ ||| BitVec.ofInt 64 _).toNat : Int))) : Sem Value) = _
  rw [wrapU, ofInt_nat, ofInt_nat, ofInt_nat]
theorem b_xorU (t : TypeId) (x y : BitVec 64) : binOp .xor t (U x) (U y) = pure (U (x ^^^ y)) := by
  unfold U
  rw [binOp_xor]
  show (pure (Value.int .u64 (IntKind.u64.wrap ((BitVec.ofInt 64 _ ^^^ BitVec.ofInt 64 _).toNat : Int))) : Sem Value) = _
  rw [wrapU, ofInt_nat, ofInt_nat, ofInt_nat]
theorem b_shlU (t : TypeId) (x : BitVec 64) (yk : IntKind) (m : Nat) : binOp .shl t (U x) (.int yk (m : Int)) = pure (U (x <<< m)) := by
  unfold U
  rw [binOp_shl]
  unfold Op.shift
  rw [if_neg (show ¬ ((m : Int) < 0) by omega)]
  simp only [Int.toNat_natCast]
  rw [wrapU, ofInt_mul_pow, show x <<< (min m IntKind.u64.bits) = x <<< m from shl_min x m]
theorem b_shrU (t : TypeId) (x : BitVec 64) (yk : IntKind) (m : Nat) : binOp .shr t (U x) (.int yk (m : Int)) = pure (U (x >>> m)) := by
  unfold U
  rw [binOp_shr]
  unfold Op.shift
  rw [if_neg (show ¬ ((m : Int) < 0) by omega)]
  simp only [Int.toNat_natCast]
  rw [fdiv_pow_nat, show x.toNat / 2 ^ (min m IntKind.u64.bits) = (x >>> m).toNat from shr_min x m]
theorem b_eqlU (t : TypeId) (x y : BitVec 64) : binOp .eql t (U x) (U y) = pure (.bool (decide (x = y))) := by
  unfold U
  rw [binOp_eql]
  congr 2
  exact decide_eq_decide.2 (by rw [← BitVec.toNat_inj]; omega)
theorem b_andW (t : TypeId) (x y : BitVec 32) : binOp .and t (W x) (W y) = pure (W (x &&& y)) := by
  unfold W
  rw [binOp_and]
  show (pure (Value.int .u32 (IntKind.u32.wrap ((BitVec.ofInt 32 _ &&& BitVec.ofInt 32 _).toNat : Int))) : Sem Value) = _
  rw [wrapW, ofInt_nat, ofInt_nat, ofInt_nat]
theorem b_xorW (t : TypeId) (x y : BitVec 32) : binOp .xor t (W x) (W y) = pure (W (x ^^^ y)) := by
  unfold W
  rw [binOp_xor]
  show (pure (Value.int .u32 (IntKind.u32.wrap ((BitVec.ofInt 32 _ ^^^ BitVec.ofInt 32 _).toNat : Int))) : Sem Value) = _
  rw [wrapW, ofInt_nat, ofInt_nat, ofInt_nat]
theorem b_shrW (t : TypeId) (x : BitVec 32) (yk : IntKind) (m : Nat) : binOp .shr t (W x) (.int yk (m : Int)) = pure (W (x >>> m)) := by
  unfold W
  rw [binOp_shr]
  unfold Op.shift
  rw [if_neg (show ¬ ((m : Int) < 0) by omega)]
  simp only [Int.toNat_natCast]
  rw [fdiv_pow_nat, show x.toNat / 2 ^ (min m IntKind.u32.bits) = (x >>> m).toNat from shr_min x m]
theorem b_eqlW (t : TypeId) (x y : BitVec 32) : binOp .eql t (W x) (W y) = pure (.bool (decide (x = y))) := by
  unfold W
  rw [binOp_eql]
  congr 2
  exact decide_eq_decide.2 (by rw [← BitVec.toNat_inj]; omega)
theorem b_andB (t : TypeId) (x y : BitVec 8) : binOp .and t (B x) (B y) = pure (B (x &&& y)) := by
  unfold B
  rw [binOp_and]
  show (pure (Value.int .u8 (IntKind.u8.wrap ((BitVec.ofInt 8 _ &&& BitVec.ofInt 8 _).toNat : Int))) : Sem Value) = _
  rw [wrapB, ofInt_nat, ofInt_nat, ofInt_nat]
theorem b_orB (t : TypeId) (x y : BitVec 8) : binOp .or t (B x) (B y) = pure (B (x ||| y)) := by
  unfold B
  rw [binOp_or]
  show (pure (Value.int .u8 (IntKind.u8.wrap ((BitVec.ofInt 8 _ ||| BitVec.ofInt 8 _).toNat : Int))) : Sem Value) = _
  rw [wrapB, ofInt_nat, ofInt_nat, ofInt_nat]
theorem b_xorB (t : TypeId) (x y : BitVec 8) : binOp .xor t (B x) (B y) = pure (B (x ^^^ y)) := by
  unfold B
  rw [binOp_xor]
  show (pure (Value.int .u8 (IntKind.u8.wrap ((BitVec.ofInt 8 _ ^^^ BitVec.ofInt 8 _).toNat : Int))) : Sem Value) = _
  rw [wrapB, ofInt_nat, ofInt_nat, ofInt_nat]
theorem b_andNotB (t : TypeId) (x y : BitVec 8) : binOp .andNot t (B x) (B y) = pure (B (x &&& ~~~y)) := by
  unfold B
  rw [binOp_andNot]
  show (pure (Value.int .u8 (IntKind.u8.wrap ((BitVec.ofInt 8 _ &&& ~~~BitVec.ofInt 8 _).toNat : Int))) : Sem Value) = _
  rw [wrapB, ofInt_nat, ofInt_nat, ofInt_nat]
theorem b_shlB (t : TypeId) (x : BitVec 8) (yk : IntKind) (m : Nat) : binOp .shl t (B x) (.int yk (m : Int)) = pure (B (x <<< m)) := by
  unfold B
  rw [binOp_shl]
  unfold Op.shift
  rw [if_neg (show ¬ ((m : Int) < 0) by omega)]
  simp only [Int.toNat_natCast]
  rw [wrapB, ofInt_mul_pow, show x <<< (min m IntKind.u8.bits) = x <<< m from shl_min x m]
theorem b_shrB (t : TypeId) (x : BitVec 8) (yk : IntKind) (m : Nat) : binOp .shr t (B x) (.int yk (m : Int)) = pure (B (x >>> m)) := by
  unfold B
  rw [binOp_shr]
  unfold Op.shift
  rw [if_neg (show ¬ ((m : Int) < 0) by omega)]
  simp only [Int.toNat_natCast]
  rw [fdiv_pow_nat, show x.toNat / 2 ^ (min m IntKind.u8.bits) = (x >>> m).toNat from shr_min x m]
theorem b_eqlB (t : TypeId) (x y : BitVec 8) : binOp .eql t (B x) (B y) = pure (.bool (decide (x = y))) := by
  unfold B
  rw [binOp_eql]
  congr 2
  exact decide_eq_decide.2 (by rw [← BitVec.toNat_inj]; omega)
theorem b_neqB (t : TypeId) (x y : BitVec 8) : binOp .neq t (B x) (B y) = pure (.bool (!decide (x = y))) := by
  unfold B
  rw [binOp_neq]
  exact congrArg (fun b => (pure (Value.bool (!b)) : Sem Value)) (decide_eq_decide.2 (by rw [← BitVec.toNat_inj]; omega))
theorem wrapZ (z : Int) (h : -9223372036854775808 ≤ z ∧ z < 9223372036854775808) : IntKind.i64.wrap z = z := IntWalk.i64_in z (by omega)
theorem wrapN (m : Nat) (h : m < 9223372036854775808) : IntKind.i64.wrap (m : Int) = (m : Int) := wrapZ _ (by omega)
theorem b_addZ (t : TypeId) (x y : Int) (h : -9223372036854775808 ≤ x + y ∧ x + y < 9223372036854775808) : binOp .add t (.int .i64 x) (.int .i64 y) = pure (.int .i64 (x + y)) := by
  rw [binOp_add]; unfold Op.intArith; simp only; rw [wrapZ _ h]
theorem b_subZ (t : TypeId) (x y : Int) (h : -9223372036854775808 ≤ x - y ∧ x - y < 9223372036854775808) : binOp .sub t (.int .i64 x) (.int .i64 y) = pure (.int .i64 (x - y)) := by
  rw [binOp_sub]; unfold Op.intArith; simp only; rw [wrapZ _ h]
theorem b_mulZ (t : TypeId) (x y : Int) (h : -9223372036854775808 ≤ x * y ∧ x * y < 9223372036854775808) : binOp .mul t (.int .i64 x) (.int .i64 y) = pure (.int .i64 (x * y)) := by
  rw [binOp_mul]; unfold Op.intArith; simp only; rw [wrapZ _ h]
theorem b_remZ (t : TypeId) (x y : Int) (h : y ≠ 0) : binOp .rem t (.int .i64 x) (.int .i64 y) = pure (.int .i64 (x.tmod y)) := by
  rw [binOp_rem]; unfold Op.intDiv; rw [if_neg h]
theorem b_addN (t : TypeId) (x y : Nat) (h : x + y < 9223372036854775808) : binOp .add t (N x) (N y) = pure (N (x + y)) := by
  unfold N; rw [b_addZ _ _ _ (by omega)]; rfl
theorem b_subN (t : TypeId) (x y : Nat) (h : y ≤ x) (hx : x < 9223372036854775808) : binOp .sub t (N x) (N y) = pure (N (x - y)) := by
  unfold N; rw [b_subZ _ _ _ (by omega), show ((x : Int) - y) = ((x - y : Nat) : Int) by omega]
theorem b_mulN (t : TypeId) (x y : Nat) (h : x * y < 9223372036854775808) : binOp .mul t (N x) (N y) = pure (N (x * y)) := by
  have e : (x : Int) * (y : Int) = ((x * y : Nat) : Int) := by simp
  unfold N; rw [b_mulZ _ _ _ (by rw [e]; omega), e]
theorem b_quoN (t : TypeId) (x y : Nat) (h : 0 < y) (hx : x < 9223372036854775808) : binOp .quo t (N x) (N y) = pure (N (x / y)) := by
  unfold N
  rw [binOp_quo]
  unfold Op.intDiv
  rw [if_neg (show ¬ ((y : Int) = 0) by omega)]
  simp only
  rw [show (x : Int).tdiv (y : Int) = ((x / y : Nat) : Int) by rw [Int.tdiv_eq_ediv_of_nonneg (by omega)]; simp]
  rw [wrapN _ (Nat.lt_of_le_of_lt (Nat.div_le_self _ _) hx)]
theorem b_remN (t : TypeId) (x y : Nat) (h : 0 < y) : binOp .rem t (N x) (N y) = pure (N (x % y)) := by
  unfold N
  rw [binOp_rem]
  unfold Op.intDiv
  rw [if_neg (show ¬ ((y : Int) = 0) by omega)]
  simp only
  rw [show (x : Int).tmod (y : Int) = ((x % y : Nat) : Int) by rw [Int.tmod_eq_emod_of_nonneg (by omega)]; simp]
theorem b_eqlZ (t : TypeId) (x y : Int) : binOp .eql t (.int .i64 x) (.int .i64 y) = pure (.bool (decide (x = y))) := by
  rw [binOp_eql]; congr 2
theorem b_neqZ (t : TypeId) (x y : Int) : binOp .neq t (.int .i64 x) (.int .i64 y) = pure (.bool (!decide (x = y))) := by
  rw [binOp_neq]; congr 2
theorem b_lssZ (t : TypeId) (x y : Int) : binOp .lss t (.int .i64 x) (.int .i64 y) = pure (.bool (decide (x < y))) := by rw [binOp_lss]
theorem b_gtrZ (t : TypeId) (x y : Int) : binOp .gtr t (.int .i64 x) (.int .i64 y) = pure (.bool (decide (y < x))) := by rw [binOp_gtr]
theorem b_geqZ (t : TypeId) (x y : Int) : binOp .geq t (.int .i64 x) (.int .i64 y) = pure (.bool (decide (y ≤ x))) := by rw [binOp_geq]
theorem b_eqlN (t : TypeId) (x y : Nat) : binOp .eql t (N x) (N y) = pure (.bool (decide (x = y))) := by
  unfold N; rw [b_eqlZ]; congr 2; exact decide_eq_decide.2 (by omega)
theorem b_neqN (t : TypeId) (x y : Nat) : binOp .neq t (N x) (N y) = pure (.bool (!decide (x = y))) := by
  unfold N; rw [b_neqZ]; congr 3; exact decide_eq_decide.2 (by omega)
theorem b_lssN (t : TypeId) (x y : Nat) : binOp .lss t (N x) (N y) = pure (.bool (decide (x < y))) := by
  unfold N; rw [b_lssZ]; congr 2; exact decide_eq_decide.2 (by omega)
theorem b_gtrN (t : TypeId) (x y : Nat) : binOp .gtr t (N x) (N y) = pure (.bool (decide (y < x))) := by
  unfold N; rw [b_gtrZ]; congr 2; exact decide_eq_decide.2 (by omega)
end Go.Sym
namespace Go.Sym
open Go Go.RowKit
theorem both_of {S : Array Bool} {i : Nat} (h : S.getD i true = false) : S.getD i false = false := by
  rw [Array.getD_eq_getD_getElem?] at h ⊢
  cases hx : S[i]? with
  | none => rw [hx] at h; cases h
  | some b => rw [hx] at h; simpa using h
theorem in_of {S : Array Bool} {i : Nat} (hi : i < S.size) (h : S.getD i false = false) : S.getD i true = false := by
  rw [Array.getD_eq_getD_getElem?] at h ⊢
  rw [Array.getElem?_eq_getElem hi] at h ⊢
  simpa using h
theorem replicate_false (m j : Nat) : (Array.replicate m false).getD j false = false := by
  rw [Array.getD_eq_getD_getElem?, Array.getElem?_replicate]
  split <;> rfl
section
variable {P : Program} {Q : Exit → Act → World → Prop} {n : Nat} {ops : List Oper}
theorem wpAny_inv {oa : Array Oper} (Inv : Array Bool → Act → World → Prop)
    (step : ∀ S a w i, i ∈ Region.ready .any oa S → Inv S a w → wpOp P oa Q i (fun a' w' => Inv (S.setIfInBounds i true) a' w') a w)
    (done : ∀ S a w, Region.ready .any oa S = [] → Inv S a w → Q .normal a w)
    (short : ∀ S a w, Inv S a w → S.size = oa.size) :
    ∀ (f : Nat) (S : Array Bool) (a : Act) (w : World), ((List.range oa.size).filter (fun i => !S.getD i true)).length ≤ f → Inv S a w → wpAny P .any oa Q f S a w := by
  intro f
  induction f with
  | zero =>
    intro S a w hf hI
    have hr : Region.ready .any oa S = [] := by
      rw [List.eq_nil_iff_forall_not_mem]
      intro i hi
      obtain ⟨h1, o, ho, _⟩ := mem_ready.1 hi
      have hlt : i < oa.size := (Array.getElem?_eq_some_iff.1 ho).1
      have hm : i ∈ (List.range oa.size).filter (fun i => !S.getD i true) := by
        rw [List.mem_filter]
        exact ⟨List.mem_range.2 hlt, by rw [h1]; rfl⟩
      have := List.length_pos_of_mem hm
      omega
    exact ⟨hr, done S a w hr hI⟩
  | succ f ih =>
    intro S a w hf hI
    refine ⟨fun hr => done S a w hr hI, fun i hi => ?_⟩
    obtain ⟨h1, o, ho, _⟩ := mem_ready.1 hi
    have hlt : i < oa.size := (Array.getElem?_eq_some_iff.1 ho).1
    refine wpOp_mono (fun a' w' h => ih _ a' w' ?_ h) (step S a w i hi hI)
    have hsz := short S a w hI
    have hsub : ((List.range oa.size).filter (fun j => !(S.setIfInBounds i true).getD j true)).length < ((List.range oa.size).filter (fun j => !S.getD j true)).length := by
      have key : ∀ l : List Nat, (∀ j ∈ l, j < oa.size) → ((l.filter (fun j => !(S.setIfInBounds i true).getD j true)).length ≤ (l.filter (fun j => !S.getD j true)).length ∧
          (i ∈ l → (l.filter (fun j => !(S.setIfInBounds i true).getD j true)).length < (l.filter (fun j => !S.getD j true)).length)) := by
        intro l
        induction l with
        | nil => intro _; exact ⟨Nat.le_refl _, fun h => by cases h⟩
        | cons j l ihl =>
          intro hl
          obtain ⟨ih1, ih2⟩ := ihl (fun k hk => hl k (List.mem_cons_of_mem _ hk))
          by_cases hji : i = j
          · subst hji
            have e1 : (S.setIfInBounds i true).getD i true = true := by
              have : i < S.size := by omega
              simp [Array.getD_eq_getD_getElem?, this]
            simp only [List.filter_cons, e1, h1, Bool.not_true, Bool.not_false, if_true, Bool.false_eq_true, if_false, List.length_cons]
            exact ⟨by omega, fun _ => by omega⟩
          · have e1 : (S.setIfInBounds i true).getD j true = S.getD j true := by
              simp [Array.getD_eq_getD_getElem?, hji]
            simp only [List.filter_cons, e1]
            split
            · simp only [List.length_cons]
              refine ⟨by omega, fun hm => ?_⟩
              rcases List.mem_cons.1 hm with h | h
              · exact absurd h hji
              · have := ih2 h; omega
            · refine ⟨ih1, fun hm => ?_⟩
              rcases List.mem_cons.1 hm with h | h
              · exact absurd h hji
              · exact ih2 h
      exact (key _ (fun j hj => List.mem_range.1 hj)).2 (List.mem_range.2 hlt)
    omega
def Yields (P : Program) (ops : List Oper) (C : World → Prop) (o : Oper) (a : Act) (w : World) (v : Value) : Prop :=
  (Region.wanted o (yielded ops.toArray a.tmps) = true ∧
    ((execOp a.eval o).run P w = .ok (.value v) w ∨ ∃ f args, (execOp a.eval o).run P w = .ok (.enter f args) w ∧ Calls P f args w (fun e w' => e = .returned v ∧ C w'))) ∨
  (Region.wanted o (yielded ops.toArray a.tmps) = false ∧ v = undef)
def vput (vals : Nat → Value) (i : Nat) (v : Value) : Nat → Value := fun j => bif Nat.beq j i then v else vals j
def predEnv (ops : List Oper) (o : Oper) (es : List (Nat × Value)) (vals : Nat → Value) : Nat → Option Value :=
  env (o.after.toList.filterMap (fun e => if Region.binds .any e then ((ops[e.on]?).bind (·.dst)).map (fun d => (d, vals e.on)) else none) ++ es)
def plan (P : Program) (ops : List Oper) (n : Nat) (C : World → Prop) (es : List (Nat × Value)) (K : (Nat → Value) → Prop) : List Oper → Nat → (Nat → Value) → Prop
  | [], _, vals => K vals
  | o :: rest, i, vals => ∃ v, (∀ a w, Slots a n (predEnv ops o es vals) → C w → Yields P ops C o a w v) ∧ plan P ops n C es K rest (i + 1) (vput vals i v)
def reach (ops : List Oper) : Nat → Nat → List Nat
  | 0, _ => []
  | f + 1, i => match ops[i]? with
    | none => []
    | some o => o.after.toList.flatMap fun e => if Region.binds .any e then e.on :: reach ops f e.on else []
def tailB (ops : List Oper) (t : Nat) : Bool :=
  (List.range ops.length).all fun i => decide (i < t) || (List.range i).all fun j => (reach ops (ops.length + 1) i).contains j
def dstsOk (n : Nat) : List Oper → Bool
  | [] => true
  | o :: l => (match o.dst with | none => true | some d => decide (d < n) && l.all fun o' => match o'.dst with | none => true | some d' => !(d == d')) && dstsOk n l
def outside (ops : List Oper) (es : List (Nat × Value)) : Bool := es.all fun p => ops.all fun o => match o.dst with | none => true | some d => !(d == p.1)
theorem dstsOk_spec : ∀ {l : List Oper}, dstsOk n l = true → ∀ (i j : Nat) (oi oj : Oper) (d : Nat), l[i]? = some oi → l[j]? = some oj → oi.dst = some d → oj.dst = some d → i = j ∧ d < n
  | [], _, i, _, _, _, _, hi, _, _, _ => by simp at hi
  | o :: l, h, i, j, oi, oj, d, hi, hj, hdi, hdj => by
    simp only [dstsOk, Bool.and_eq_true] at h
    obtain ⟨h1, h2⟩ := h
    cases i with
    | zero =>
      simp at hi; subst hi
      rw [hdi] at h1
      simp only [Bool.and_eq_true, decide_eq_true_eq] at h1
      cases j with
      | zero => exact ⟨rfl, h1.1⟩
      | succ j =>
        simp only [List.getElem?_cons_succ] at hj
        have := List.all_eq_true.1 h1.2 oj (List.mem_of_getElem? hj)
        rw [hdj] at this
        simp at this
    | succ i =>
      simp only [List.getElem?_cons_succ] at hi
      cases j with
      | zero =>
        simp at hj; subst hj
        rw [hdj] at h1
        simp only [Bool.and_eq_true, decide_eq_true_eq] at h1
        have := List.all_eq_true.1 h1.2 oi (List.mem_of_getElem? hi)
        rw [hdi] at this
        simp at this
      | succ j =>
        simp only [List.getElem?_cons_succ] at hj
        have := dstsOk_spec h2 i j oi oj d hi hj hdi hdj
        exact ⟨by omega, this.2⟩
structure Held (a : Act) (n : Nat) (ops : List Oper) (es : List (Nat × Value)) (vals : Nat → Value) (S : Nat → Bool) : Prop where
  defers : a.defers = []
  size : a.tmps.size = n
  outer : ∀ i v, env es i = some v → a.tmps[i]? = some v
  inner : ∀ i o d, ops[i]? = some o → o.dst = some d → S i = true → a.tmps[d]? = some (vals i)
theorem env_append_spec {l1 l2 : List (Nat × Value)} {i : Nat} {v : Value} (h : env (l1 ++ l2) i = some v) : (∃ p ∈ l1, p.1 = i ∧ p.2 = v) ∨ env l2 i = some v := by
  induction l1 with
  | nil => exact .inr h
  | cons p l1 ih =>
    obtain ⟨d, u⟩ := p
    simp only [List.cons_append, env] at h
    by_cases hid : i = d
    · subst hid
      rw [show Nat.beq i i = true from beq_self _] at h
      simp only [cond_true, Option.some.injEq] at h
      exact .inl ⟨(i, u), List.mem_cons_self, rfl, h⟩
    · rw [show Nat.beq i d = false from by
        cases hb : Nat.beq i d with
        | false => rfl
        | true => exact absurd (Nat.eq_of_beq_eq_true hb) hid] at h
      simp only [cond_false] at h
      rcases ih h with ⟨p, hp, h1⟩ | h1
      · exact .inl ⟨p, List.mem_cons_of_mem _ hp, h1⟩
      · exact .inr h1
theorem env_mem {l : List (Nat × Value)} {i : Nat} {v : Value} (h : env l i = some v) : ∃ p ∈ l, p.1 = i ∧ p.2 = v := by
  have : env (l ++ []) i = some v := by simpa using h
  rcases env_append_spec this with h | h
  · exact h
  · simp [env] at h
theorem filterMap_eq {α β : Type} {f g : α → Option β} : ∀ {l : List α}, (∀ x ∈ l, f x = g x) → l.filterMap f = l.filterMap g
  | [], _ => rfl
  | x :: l, h => by
    rw [List.filterMap_cons, List.filterMap_cons, h x List.mem_cons_self, filterMap_eq (l := l) (fun y hy => h y (List.mem_cons_of_mem _ hy))]
theorem Held.slots {a : Act} {es : List (Nat × Value)} {vals : Nat → Value} {S : Nat → Bool} {o : Oper} (h : Held a n ops es vals S)
    (hp : ∀ e ∈ o.after, Region.binds .any e = true → S e.on = true) : Slots a n (predEnv ops o es vals) where
  defers := h.defers
  size := h.size
  get := by
    intro i v hv
    rcases env_append_spec hv with ⟨p, hp', h1, h2⟩ | hv
    · rw [List.mem_filterMap] at hp'
      obtain ⟨e, he, hpe⟩ := hp'
      split at hpe
      · rename_i hb
        cases hoo : ops[e.on]? with
        | none => simp [hoo] at hpe
        | some oe =>
          cases hd : oe.dst with
          | none => simp [hoo, hd] at hpe
          | some d =>
            simp [hoo, hd] at hpe
            subst hpe
            simp only at h1 h2
            subst h1 h2
            exact h.inner e.on oe d hoo hd (hp e (Array.mem_toList_iff.1 he) hb)
      · cases hpe
    · exact h.outer i v hv
theorem outside_spec {l : List Oper} {es : List (Nat × Value)} (h : outside l es = true) {o : Oper} (ho : o ∈ l) : ∀ d0, o.dst = some d0 → ∀ p ∈ es, d0 ≠ p.1 := by
  intro d0 hd p hp
  have := List.all_eq_true.1 (List.all_eq_true.1 h p hp) o ho
  rw [hd] at this
  simpa using this
theorem mem_take {l : List Oper} {i t : Nat} {o : Oper} (hi : i < t) (h : l[i]? = some o) : o ∈ l.take t := List.mem_of_getElem? (i := i) (by rw [List.getElem?_take, if_pos hi]; exact h)
theorem Held.done {a : Act} {es : List (Nat × Value)} {vals : Nat → Value} {S : Nat → Bool} {o : Oper} (h : Held a n ops es vals S) (hout : ∀ d0, o.dst = some d0 → ∀ p ∈ es, d0 ≠ p.1) (hd : dstsOk n ops = true) {i : Nat}
    (hi : ops[i]? = some o) : Held (a.put o.dst (vals i)) n ops es vals (fun j => bif Nat.beq j i then true else S j) := by
  cases ho : o.dst with
  | none =>
    refine ⟨h.defers, h.size, h.outer, fun j oj d hj hdj hS => ?_⟩
    by_cases hji : j = i
    · subst hji
      have : oj = o := Option.some.inj (hj.symm.trans hi)
      subst this
      rw [ho] at hdj; cases hdj
    · rw [show Nat.beq j i = false from by
        cases hb : Nat.beq j i with
        | false => rfl
        | true => exact absurd (Nat.eq_of_beq_eq_true hb) hji] at hS
      exact h.inner j oj d hj hdj hS
  | some d0 =>
    have hlt : d0 < n := (dstsOk_spec hd i i o o d0 hi hi ho ho).2
    refine ⟨h.defers, by simp [Act.put, h.size], fun j v hv => ?_, fun j oj d hj hdj hS => ?_⟩
    · have hne : d0 ≠ j := by
        obtain ⟨p, hp, h1, _⟩ := env_mem hv
        rw [← h1]
        exact hout d0 ho p hp
      simp only [Act.put, Array.getElem?_setIfInBounds, if_neg hne]
      exact h.outer j v hv
    · by_cases hji : j = i
      · subst hji
        have : oj = o := Option.some.inj (hj.symm.trans hi)
        subst this
        rw [ho] at hdj
        cases hdj
        simp [Act.put, h.size, hlt]
      · rw [show Nat.beq j i = false from by
          cases hb : Nat.beq j i with
          | false => rfl
          | true => exact absurd (Nat.eq_of_beq_eq_true hb) hji] at hS
        have hne : d0 ≠ d := fun e => hji (dstsOk_spec hd j i oj o d hj hi hdj (e ▸ ho)).1
        simp only [Act.put, Array.getElem?_setIfInBounds, if_neg hne]
        exact h.inner j oj d hj hdj hS
theorem plan_all {C : World → Prop} {es : List (Nat × Value)} {K : (Nat → Value) → Prop} (hlex : ∀ i o, ops[i]? = some o → ∀ e ∈ o.after, Region.binds .any e = true → e.on < i) :
    ∀ (l : List Oper) (k : Nat) (vals : Nat → Value), (∀ j, l[j]? = none ∨ l[j]? = ops[k + j]?) → plan P ops n C es K l k vals →
      ∃ vs : Nat → Value, (∀ j, j < k → vs j = vals j) ∧ K vs ∧ ∀ i o, k ≤ i → i < k + l.length → ops[i]? = some o → ∀ a w, Slots a n (predEnv ops o es vs) → C w → Yields P ops C o a w (vs i)
  | [], k, vals, _, h => ⟨vals, fun _ _ => rfl, h, fun i o h1 h2 => by simp at h2; omega⟩
  | o :: l, k, vals, hl, h => by
    obtain ⟨v, h1, h2⟩ := h
    have h0 : ops[k]? = some o := by
      rcases hl 0 with h | h
      · simp at h
      · simpa using h.symm
    obtain ⟨vs, e1, e2, e3⟩ := plan_all hlex l (k + 1) (vput vals k v) (fun j => by
      rcases hl (j + 1) with h | h
      · exact .inl (by simpa using h)
      · exact .inr (by rw [show k + 1 + j = k + (j + 1) by omega, ← h]; simp)) h2
    have ev : ∀ j, j < k → vs j = vals j := fun j hj => by
      rw [e1 j (by omega)]
      unfold vput
      rw [show Nat.beq j k = false from by
        cases hb : Nat.beq j k with
        | false => rfl
        | true => have := Nat.eq_of_beq_eq_true hb; omega]
      rfl
    refine ⟨vs, ev, e2, fun i o' hi1 hi2 ho' => ?_⟩
    by_cases hik : i = k
    · subst hik
      have : o' = o := Option.some.inj (ho'.symm.trans h0)
      subst this
      have hv : vs i = v := by
        rw [e1 i (by omega)]
        unfold vput
        rw [show Nat.beq i i = true from beq_self _]
        rfl
      rw [hv]
      intro a w hS hC
      refine h1 a w (hS.weaken ?_) hC
      have : predEnv ops o' es vals = predEnv ops o' es vs := by
        unfold predEnv
        congr 2
        refine filterMap_eq fun e he => ?_
        split
        · rename_i hb
          rw [ev e.on (hlex i o' ho' e (Array.mem_toList_iff.1 he) hb)]
        · rfl
      rw [this]
      exact fun i v h => h
    · exact e3 i o' (by omega) (by simp at hi2; omega) ho'
def lexicalB (ops : List Oper) : Bool := (List.range ops.length).all fun i => match ops[i]? with | none => true | some o => o.after.toList.all fun e => !Region.binds .any e || decide (e.on < i)
theorem lexicalB_spec (h : lexicalB ops = true) : ∀ i o, ops[i]? = some o → ∀ e ∈ o.after, Region.binds .any e = true → e.on < i := by
  intro i o ho e he hb
  have hlt : i < ops.length := (List.getElem?_eq_some_iff.1 ho).1
  have := List.all_eq_true.1 h i (List.mem_range.2 hlt)
  rw [ho] at this
  have := List.all_eq_true.1 this e (Array.mem_toList_iff.2 he)
  simpa [hb] using this
theorem reach_closed {S : Nat → Bool} (hc : ∀ i o, ops[i]? = some o → S i = true → ∀ e ∈ o.after, Region.binds .any e = true → S e.on = true) :
    ∀ (f i : Nat), (∀ o, ops[i]? = some o → ∀ e ∈ o.after, Region.binds .any e = true → S e.on = true) → ∀ j ∈ reach ops f i, S j = true
  | 0, _, _, j, hj => by simp [reach] at hj
  | f + 1, i, h, j, hj => by
    simp only [reach] at hj
    cases ho : ops[i]? with
    | none => simp [ho] at hj
    | some o =>
      simp only [ho, List.mem_flatMap] at hj
      obtain ⟨e, he, hj⟩ := hj
      split at hj
      · rename_i hb
        have hse := h o ho e (Array.mem_toList_iff.1 he) hb
        rcases List.mem_cons.1 hj with rfl | hj
        · exact hse
        · exact reach_closed hc f e.on (fun o' ho' => hc e.on o' ho' hse) j hj
      · cases hj
theorem c_plan {id : Nat} {a : Act} {w : World} {E : Nat → Option Value} (t : Nat) (C : World → Prop) (es : List (Nat × Value)) (hm : P.follows .mixedOrders = true)
    (hB : (lexicalB ops && tailB ops t && dstsOk n ops && outside (ops.take t) es && decide (t ≤ ops.length)) = true) (hS : Slots a n E) (hes : allIn E es) (hC : C { w with drawn := w.drawn + 1 })
    (h : plan P ops n C es (fun vals => ∀ a w, Slots a n (env ((List.range t).filterMap (fun i => ((ops[i]?).bind (·.dst)).map (fun d => (d, vals i))) ++ es)) → C w → wpList P ops.toArray Q (ops.drop t) a w) (ops.take t) 0 (fun _ => undef)) :
    (Code.region id ops.toArray true).wp P Q a w := by
  simp only [Bool.and_eq_true, decide_eq_true_eq] at hB
  obtain ⟨⟨⟨⟨hlex, htail⟩, hdst⟩, hout⟩, hle⟩ := hB
  have hlex' := lexicalB_spec hlex
  obtain ⟨vs, -, hK, hall⟩ := plan_all hlex' (ops.take t) 0 (fun _ => undef) (fun j => by
    by_cases hj : j < t
    · exact .inr (by simp [hj])
    · exact .inl (by simp [List.getElem?_take, hj])) h
  have hlen : (ops.take t).length = t := by simp; omega
  rw [hlen] at hall
  refine wp_region_any hm ?_
  refine wpAny_inv (fun S a w => S.size = ops.length ∧ (∀ i o, ops[i]? = some o → S.getD i false = true → ∀ e ∈ o.after, Region.binds .any e = true → S.getD e.on false = true) ∧
    (((∃ i, i < t ∧ S.getD i false = false) ∧ Held a n ops es vs (fun i => S.getD i false && decide (i < t)) ∧ C w) ∨
     (∃ j, t ≤ j ∧ (∀ i, i < j → i < ops.length → S.getD i false = true) ∧ (∀ i, j ≤ i → S.getD i false = false) ∧ wpList P ops.toArray Q (ops.drop j) a w))) ?_ ?_ ?_ _ _ _ _ ?_ ?_
  · intro S a w i hi ⟨hsz, hcl, hI⟩
    obtain ⟨hun, o, ho, hpre⟩ := mem_ready.1 hi
    have ho' : ops[i]? = some o := by simpa using ho
    have hilt : i < ops.length := (List.getElem?_eq_some_iff.1 ho').1
    have hun' : S.getD i false = false := both_of hun
    have hcl' : ∀ k o, ops[k]? = some o → (S.setIfInBounds i true).getD k false = true → ∀ e ∈ o.after, Region.binds .any e = true → (S.setIfInBounds i true).getD e.on false = true := by
      intro k ok hk hSk e he hb
      refine getD_set_true ?_
      by_cases hki : i = k
      · subst hki
        have : ok = o := Option.some.inj (hk.symm.trans ho')
        subst this
        exact hpre e he hb
      · rw [getD_set_ne false hki] at hSk
        exact hcl k ok hk hSk e he hb
    have hsink : t ≤ i → ∀ j, j < i → S.getD j false = true := by
      intro hti j hji
      have h1 := List.all_eq_true.1 htail i (List.mem_range.2 hilt)
      simp only [Bool.or_eq_true, decide_eq_true_eq] at h1
      rcases h1 with h1 | h1
      · omega
      · have h2 := List.all_eq_true.1 h1 j (List.mem_range.2 hji)
        exact reach_closed (S := fun k => S.getD k false) hcl _ i (fun o2 ho2 e he hb => by
          have : o2 = o := Option.some.inj (ho2.symm.trans ho')
          subst this
          exact hpre e he hb) j (by simpa using h2)
    rcases hI with ⟨⟨k, hkt, hk⟩, hH, hCw⟩ | ⟨j, htj, hj1, hj2, hwp⟩
    · have hit : i < t := by
        rcases Nat.lt_or_ge i t with h | h
        · exact h
        · have := hsink h k (by omega)
          rw [hk] at this; cases this
      have hY := hall i o (Nat.zero_le _) (by omega) ho' a w (hH.slots (o := o) (fun e he hb => by
        have h1 := hpre e he hb
        have h2 := hlex' i o ho' e he hb
        simp only [h1, Bool.true_and, decide_eq_true_eq]
        omega)) hCw
      have hnext : ∀ w', C w' → (S.setIfInBounds i true).size = ops.length ∧ (∀ k o, ops[k]? = some o → (S.setIfInBounds i true).getD k false = true → ∀ e ∈ o.after, Region.binds .any e = true → (S.setIfInBounds i true).getD e.on false = true) ∧
          (((∃ k, k < t ∧ (S.setIfInBounds i true).getD k false = false) ∧ Held (a.put o.dst (vs i)) n ops es vs (fun k => (S.setIfInBounds i true).getD k false && decide (k < t)) ∧ C w') ∨
          (∃ j, t ≤ j ∧ (∀ k, k < j → k < ops.length → (S.setIfInBounds i true).getD k false = true) ∧ (∀ k, j ≤ k → (S.setIfInBounds i true).getD k false = false) ∧ wpList P ops.toArray Q (ops.drop j) (a.put o.dst (vs i)) w')) := by
        intro w' hC'
        refine ⟨by simpa using hsz, hcl', ?_⟩
        have hH' := hH.done (outside_spec hout (mem_take hit ho')) hdst ho'
        have heq : ∀ k, (S.setIfInBounds i true).getD k false = (bif Nat.beq k i then true else S.getD k false) := by
          intro k
          by_cases hki : k = i
          · subst hki
            rw [show Nat.beq k k = true from beq_self _]
            have : k < S.size := by omega
            simp [Array.getD_eq_getD_getElem?, this]
          · rw [show Nat.beq k i = false from by
              cases hb : Nat.beq k i with
              | false => rfl
              | true => exact absurd (Nat.eq_of_beq_eq_true hb) hki]
            rw [getD_set_ne false (fun e => hki e.symm)]
            rfl
        have hH'' : Held (a.put o.dst (vs i)) n ops es vs (fun k => (S.setIfInBounds i true).getD k false && decide (k < t)) := by
          refine ⟨hH'.defers, hH'.size, hH'.outer, fun k ok d hk hd hSk => hH'.inner k ok d hk hd ?_⟩
          simp only [Bool.and_eq_true, decide_eq_true_eq, heq] at hSk
          cases hb : Nat.beq k i with
          | true => rfl
          | false => rw [hb] at hSk; simp only [cond_false] at hSk ⊢; simp [hSk.1, hSk.2]
        by_cases hmore : ∃ k, k < t ∧ (S.setIfInBounds i true).getD k false = false
        · exact .inl ⟨hmore, hH'', hC'⟩
        · refine .inr ⟨t, Nat.le_refl _, ?_, ?_, ?_⟩
          · intro k hk _
            cases hb : (S.setIfInBounds i true).getD k false with
            | true => rfl
            | false => exact absurd ⟨k, hk, hb⟩ hmore
          · intro k hk
            have hki : i ≠ k := by omega
            rw [getD_set_ne false hki]
            cases hb : S.getD k false with
            | false => rfl
            | true =>
              exfalso
              have hkl : k < ops.length := by
                rcases Nat.lt_or_ge k ops.length with h | h
                · exact h
                · rw [Array.getD_eq_getD_getElem?, Array.getElem?_eq_none (by omega)] at hb
                  cases hb
              have h1 := List.all_eq_true.1 htail k (List.mem_range.2 hkl)
              simp only [Bool.or_eq_true, decide_eq_true_eq] at h1
              rcases h1 with h1 | h1
              · omega
              · have h2 := List.all_eq_true.1 h1 i (List.mem_range.2 (by omega))
                have := reach_closed (S := fun k => S.getD k false) hcl _ k (fun o2 ho2 => hcl k o2 ho2 hb) i (by simpa using h2)
                rw [hun'] at this; cases this
          · refine hK _ _ ⟨hH''.defers, hH''.size, fun d v hv => ?_⟩ hC'
            rcases env_append_spec hv with ⟨p, hp, h1, h2⟩ | hv
            · rw [List.mem_filterMap] at hp
              obtain ⟨k, hk, hpk⟩ := hp
              have hkt := List.mem_range.1 hk
              cases hok : ops[k]? with
              | none => simp [hok] at hpk
              | some ok =>
                cases hdk : ok.dst with
                | none => simp [hok, hdk] at hpk
                | some dk =>
                  simp [hok, hdk] at hpk
                  subst hpk
                  simp only at h1 h2
                  subst h1 h2
                  refine hH''.inner k ok dk hok hdk ?_
                  simp only [Bool.and_eq_true, decide_eq_true_eq]
                  refine ⟨?_, hkt⟩
                  cases hb : (S.setIfInBounds i true).getD k false with
                  | true => rfl
                  | false => exact absurd ⟨k, hkt, hb⟩ hmore
            · exact hH''.outer d v hv
      unfold wpOp
      simp only [ho]
      rcases hY with ⟨hw, hY⟩ | ⟨hw, hv⟩
      · rw [if_pos hw]
        refine .inl ?_
        unfold Oper.wp
        rcases hY with hY | ⟨f, args, hY, hcall⟩
        · rw [hY]
          exact hnext w hCw
        · rw [hY, Oper.upon_enter]
          refine hcall.mono ?_
          rintro e w' ⟨rfl, hC'⟩
          exact hnext w' hC'
      · rw [if_neg (by rw [hw]; simp)]
        rw [← hv]
        exact hnext w hCw
    · have hij : i = j := by
        rcases Nat.lt_trichotomy i j with h | h | h
        · have := hj1 i h hilt
          rw [hun'] at this; cases this
        · exact h
        · have := hsink (by omega) j h
          rw [hj2 j (Nat.le_refl _)] at this; cases this
      subst hij
      have hdrop : ops.drop i = o :: ops.drop (i + 1) := by
        rw [List.drop_eq_getElem_cons hilt]
        congr 1
        exact Option.some.inj ((List.getElem?_eq_getElem hilt).symm.trans ho')
      rw [hdrop] at hwp
      have hgo : ∀ a' w', wpList P ops.toArray Q (ops.drop (i + 1)) a' w' → (S.setIfInBounds i true).size = ops.length ∧ (∀ k o, ops[k]? = some o → (S.setIfInBounds i true).getD k false = true → ∀ e ∈ o.after, Region.binds .any e = true → (S.setIfInBounds i true).getD e.on false = true) ∧
          (((∃ k, k < t ∧ (S.setIfInBounds i true).getD k false = false) ∧ Held a' n ops es vs (fun k => (S.setIfInBounds i true).getD k false && decide (k < t)) ∧ C w') ∨
          (∃ j, t ≤ j ∧ (∀ k, k < j → k < ops.length → (S.setIfInBounds i true).getD k false = true) ∧ (∀ k, j ≤ k → (S.setIfInBounds i true).getD k false = false) ∧ wpList P ops.toArray Q (ops.drop j) a' w')) := by
        intro a' w' h
        refine ⟨by simpa using hsz, hcl', .inr ⟨i + 1, by omega, ?_, ?_, h⟩⟩
        · intro k hk hkl
          by_cases hki : i = k
          · subst hki
            have : i < S.size := by omega
            simp [Array.getD_eq_getD_getElem?, this]
          · exact getD_set_true (hj1 k (by omega) hkl)
        · intro k hk
          rw [getD_set_ne false (by omega)]
          exact hj2 k (by omega)
      unfold wpOp
      simp only [ho]
      unfold wpList at hwp
      split at hwp
      · rename_i hw
        rw [if_pos hw]
        rcases hwp with h | h
        · exact .inl (Oper.wp_mono (fun a' w' h => hgo a' w' h) h)
        · exact .inr h
      · rename_i hw
        rw [if_neg hw]
        exact hgo _ _ hwp
  · intro S a w hr ⟨hsz, hcl, hI⟩
    have hfull : ∀ i, i < ops.length → S.getD i false = true := by
      intro i
      induction i using Nat.strongRecOn with
      | _ i ih =>
        intro hi
        cases hb : S.getD i false with
        | true => rfl
        | false =>
          exfalso
          have : i ∈ Region.ready .any ops.toArray S := by
            rw [mem_ready]
            refine ⟨in_of (by omega) hb, ops[i], by simp [hi], fun e he hbi => ?_⟩
            have hlt := hlex' i ops[i] (List.getElem?_eq_getElem hi) e he hbi
            exact ih e.on hlt (by omega)
          rw [hr] at this; cases this
    rcases hI with ⟨⟨k, hkt, hk⟩, _, _⟩ | ⟨j, htj, hj1, hj2, hwp⟩
    · rw [hfull k (by omega)] at hk; cases hk
    · have : ops.length ≤ j := by
        rcases Nat.lt_or_ge j ops.length with h | h
        · have := hj2 j (Nat.le_refl _); rw [hfull j h] at this; cases this
        · exact h
      rw [List.drop_eq_nil_of_le this] at hwp
      exact hwp
  · intro S a w hI
    simpa using hI.1
  · simpa using (List.length_filter_le _ (List.range ops.length))
  · have hrep : ∀ i, (Array.replicate ops.toArray.size false).getD i false = false := fun i => replicate_false _ _
    refine ⟨by simp, fun i o _ hi => (by rw [hrep] at hi; cases hi), ?_⟩
    by_cases ht : 0 < t
    · refine .inl ⟨⟨0, ht, hrep 0⟩, ⟨hS.defers, hS.size, fun i v hv => (hS.to es hes).get i v hv, fun i o d _ _ hi => ?_⟩, hC⟩
      simp only [Bool.and_eq_true] at hi
      rw [hrep] at hi; cases hi.1
    · have h0 : t = 0 := by omega
      subst h0
      refine .inr ⟨0, Nat.le_refl _, fun i hi => by omega, fun i _ => hrep i, ?_⟩
      exact hK _ _ (by simpa using hS.to es hes) hC
end
end Go.Sym
