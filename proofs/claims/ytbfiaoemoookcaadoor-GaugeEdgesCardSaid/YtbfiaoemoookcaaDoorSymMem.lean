/-
  The walk's laws on memory, calls and conversions.
-/
import Derived.Test.YtbfiaoemoookcaaDoorSymOps
import Derived.Test.YtbfiaoemoookcaaDoorSymNum
import Derived.Test.YtbfiaoemoookcaaDoorSymRegion
namespace Go.Sym
open Go Go.RowKit

section
variable {P : Program} {Q : Exit → Act → World → Prop} {a : Act} {w w0 : World} {n : Nat} {E : Nat → Option Value} {L : List Blk} {ops : Array Oper} {rest : List Oper}
variable {dst : Option Nat} {ty : TypeId} {pos : String} {af : Array Edge} {g : Option (Nat × Bool)}

/-! ### numbers -/

theorem r_bv {op : BinOp} {t t' : TypeId} {x y : Operand} {u u' v : Value} (hS : Slots a n E) (hx : ev E x = some u) (hy : ev E y = some u') (hu : ∀ v, eqGuard op t x y u v = pure ())
    (h : binOp op t u u' = pure v) : Run P a ⟨dst, .binOp op t x y t', ty, pos, af, g⟩ w v := by
  simp [Run, execOp, hS.eval hx, hS.eval hy, hu, h]

theorem gU {op : BinOp} {t : TypeId} {x y : Operand} {u : BitVec 64} : ∀ v, eqGuard op t x y (U u) v = pure () := fun _ => eqGuard_at_int ..
theorem gW {op : BinOp} {t : TypeId} {x y : Operand} {u : BitVec 32} : ∀ v, eqGuard op t x y (W u) v = pure () := fun _ => eqGuard_at_int ..
theorem gB {op : BinOp} {t : TypeId} {x y : Operand} {u : BitVec 8} : ∀ v, eqGuard op t x y (B u) v = pure () := fun _ => eqGuard_at_int ..
theorem gI {op : BinOp} {t : TypeId} {x y : Operand} {u : BitVec 64} : ∀ v, eqGuard op t x y (I u) v = pure () := fun _ => eqGuard_at_int ..
theorem gN {op : BinOp} {t : TypeId} {x y : Operand} {u : Nat} : ∀ v, eqGuard op t x y (N u) v = pure () := fun _ => eqGuard_at_int ..
theorem gZ {op : BinOp} {t : TypeId} {x y : Operand} {k : IntKind} {u : Int} : ∀ v, eqGuard op t x y (.int k u) v = pure () := fun _ => eqGuard_at_int ..

/-- a bool against a bool -/
theorem r_eqb {t t' : TypeId} {x y : Operand} {b c : Bool} (hS : Slots a n E) (hx : ev E x = some (.bool b)) (hy : ev E y = some (.bool c)) (hT : P.underlying t = some .bool) : Run P a ⟨dst, .binOp .eql t x y t', ty, pos, af, g⟩ w (.bool (b == c)) := by
  simp [Run, execOp, hS.eval hx, hS.eval hy, eqGuard_at_bool, run_eql_bool _ _ _ _ hT]
theorem r_neb {t t' : TypeId} {x y : Operand} {b c : Bool} (hS : Slots a n E) (hx : ev E x = some (.bool b)) (hy : ev E y = some (.bool c)) (hT : P.underlying t = some .bool) : Run P a ⟨dst, .binOp .neq t x y t', ty, pos, af, g⟩ w (.bool (!(b == c))) := by
  simp [Run, execOp, hS.eval hx, hS.eval hy, eqGuard_at_bool, run_neq_bool _ _ _ _ hT]

theorem r_conv {s d : TypeId} {x : Operand} {k kd : IntKind} {m : Int} {v : Value} (hS : Slots a n E) (hx : ev E x = some (.int k m)) (hs : (P.underlying s).isSome = true) (hd : P.underlying d = some (.int kd))
    (hv : Value.int kd (kd.wrap m) = v) : Run P a ⟨dst, .convert s d x, ty, pos, af, g⟩ w v := by
  have hk : P.intKind d = kd := by unfold Program.intKind; rw [hd]
  have := run_convert_int (P := P) w s d k m hs (by rw [hk]; exact hd)
  rw [hk] at this
  simp [Run, execOp, hS.eval hx, this, hv]

theorem cv_BU (x : BitVec 8) : Value.int .u64 (IntKind.u64.wrap (x.toNat : Int)) = U (x.setWidth 64) := by
  rw [wrapU, BitVec.ofInt_natCast]; unfold U; congr 3; apply BitVec.eq_of_toNat_eq; simp
theorem cv_WU (x : BitVec 32) : Value.int .u64 (IntKind.u64.wrap (x.toNat : Int)) = U (x.setWidth 64) := by
  rw [wrapU, BitVec.ofInt_natCast]; unfold U; congr 3; apply BitVec.eq_of_toNat_eq; simp
theorem cv_UB (x : BitVec 64) : Value.int .u8 (IntKind.u8.wrap (x.toNat : Int)) = B (x.setWidth 8) := by
  rw [wrapB, BitVec.ofInt_natCast]; unfold B; congr 2
theorem cv_WB (x : BitVec 32) : Value.int .u8 (IntKind.u8.wrap (x.toNat : Int)) = B (x.setWidth 8) := by
  rw [wrapB, BitVec.ofInt_natCast]; unfold B; congr 2
theorem cv_IB (x : BitVec 64) : Value.int .u8 (IntKind.u8.wrap x.toInt) = B (x.setWidth 8) := by
  rw [wrapB]; unfold B; congr 2
  have h : BitVec.ofInt 8 x.toInt = x.setWidth 8 := by
    apply BitVec.eq_of_toNat_eq
    simp only [BitVec.toNat_ofInt, BitVec.toNat_setWidth, BitVec.toInt_eq_toNat_cond]
    split <;> omega
  rw [h]
theorem cv_IU (x : BitVec 64) : Value.int .u64 (IntKind.u64.wrap x.toInt) = U x := by rw [wrapU, ofInt_int]; rfl
theorem cv_UI (x : BitVec 64) : Value.int .i64 (IntKind.i64.wrap (x.toNat : Int)) = I x := by rw [wrapI, ofInt_nat]; rfl
theorem cv_UU (x : BitVec 64) : Value.int .u64 (IntKind.u64.wrap (x.toNat : Int)) = U x := by rw [wrapU, ofInt_nat]; rfl
theorem cv_BI (x : BitVec 8) : Value.int .i64 (IntKind.i64.wrap (x.toNat : Int)) = I (x.setWidth 64) := by
  rw [wrapI, BitVec.ofInt_natCast]; unfold I; congr 2; apply BitVec.eq_of_toNat_eq; simp
theorem cv_BN (x : BitVec 8) : Value.int .i64 (IntKind.i64.wrap (x.toNat : Int)) = N x.toNat := by rw [wrapN _ (by omega)]; rfl
theorem cv_UN (x : BitVec 64) (h : x.toNat < 9223372036854775808) : Value.int .i64 (IntKind.i64.wrap (x.toNat : Int)) = N x.toNat := by rw [wrapN _ h]; rfl
theorem cv_NU (m : Nat) : Value.int .u64 (IntKind.u64.wrap (m : Int)) = U (BitVec.ofNat 64 m) := by rw [wrapU, BitVec.ofInt_natCast]; rfl
theorem cv_ZU (m : Int) : Value.int .u64 (IntKind.u64.wrap m) = U (BitVec.ofInt 64 m) := by rw [wrapU]; rfl
theorem cv_NB (m : Nat) : Value.int .u8 (IntKind.u8.wrap (m : Int)) = B (BitVec.ofNat 8 m) := by rw [wrapB, BitVec.ofInt_natCast]; rfl
theorem cv_ZN (m : Nat) (h : m < 9223372036854775808) : Value.int .i64 (IntKind.i64.wrap (m : Int)) = N m := by rw [wrapN _ h]; rfl
theorem cv_IZ (x : BitVec 64) : Value.int .i64 (IntKind.i64.wrap x.toInt) = I x := by rw [wrapI, ofInt_int]; rfl

theorem r_notU {t : TypeId} {x : Operand} {u : BitVec 64} (hS : Slots a n E) (hx : ev E x = some (U u)) : Run P a ⟨dst, .unOp .xor t x, ty, pos, af, g⟩ w (U (~~~u)) := by
  have h : Op.unary .xor (U u) = pure (U (~~~u)) := by
    show (pure (Value.int .u64 (IntKind.u64.wrap ((BitVec.ofInt 64 _ ^^^ BitVec.ofInt 64 _).toNat : Int))) : Sem Value) = _
    have e : BitVec.ofInt 64 (if IntKind.u64.signed then -1 else IntKind.u64.max) = BitVec.allOnes 64 := by decide
    rw [ofInt_nat, wrapU, ofInt_nat, e, BitVec.allOnes_xor]
    rfl
  simp [Run, execOp, hS.eval hx, h]
theorem r_notB {t : TypeId} {x : Operand} {u : BitVec 8} (hS : Slots a n E) (hx : ev E x = some (B u)) : Run P a ⟨dst, .unOp .xor t x, ty, pos, af, g⟩ w (B (~~~u)) := by
  have h : Op.unary .xor (B u) = pure (B (~~~u)) := by
    show (pure (Value.int .u8 (IntKind.u8.wrap ((BitVec.ofInt 8 _ ^^^ BitVec.ofInt 8 _).toNat : Int))) : Sem Value) = _
    have e : BitVec.ofInt 8 (if IntKind.u8.signed then -1 else IntKind.u8.max) = BitVec.allOnes 8 := by decide
    rw [ofInt_nat, wrapB, ofInt_nat, e, BitVec.allOnes_xor]
    rfl
  simp [Run, execOp, hS.eval hx, h]
theorem r_negZ {t : TypeId} {x : Operand} {z : Int} (hS : Slots a n E) (hx : ev E x = some (.int .i64 z)) (h : -9223372036854775808 ≤ -z ∧ -z < 9223372036854775808) : Run P a ⟨dst, .unOp .neg t x, ty, pos, af, g⟩ w (.int .i64 (-z)) := by
  have h : Op.unary .neg (.int .i64 z) = pure (.int .i64 (-z)) := by
    show (pure (Value.int .i64 (IntKind.i64.wrap (0 - z))) : Sem Value) = _
    rw [Int.zero_sub, wrapZ _ h]
  simp [Run, execOp, hS.eval hx, h]

/-! ### addresses -/

theorem r_indexA {t el : TypeId} {x y : Operand} {b off len i s : Nat} {k : IntKind} (hS : Slots a n E) (hx : ev E x = some (ptr b off)) (hy : ev E y = some (.int k (i : Int))) (hT : P.underlying t = some (.array len el))
    (hs : (P.info? el).map (·.size) = some s) (hi : i < len) : Run P a ⟨dst, .indexAddr t x y, ty, pos, af, g⟩ w (ptr b (off + i * s)) := by
  have hadd : (⟨b, off, none⟩ : Addr).add (i * s) = ⟨b, off + i * s, none⟩ := Addr.add_lit ..
  simp [Run, execOp, hS.eval hx, hS.eval hy, Instr.indexAt, run_underlying hT, Instr.sureAddr, asIntOf, ptr, hi, run_sizeOf hs, hadd]

theorem r_indexS {t el : TypeId} {x y : Operand} {b off len cap i s : Nat} {k : IntKind} (hS : Slots a n E) (hx : ev E x = some (.slice (some ⟨b, off, none⟩) len cap)) (hy : ev E y = some (.int k (i : Int))) (hT : P.underlying t = some (.slice el))
    (hs : (P.info? el).map (·.size) = some s) (hi : i < len) : Run P a ⟨dst, .indexAddr t x y, ty, pos, af, g⟩ w (ptr b (off + i * s)) := by
  have hadd : (⟨b, off, none⟩ : Addr).add (i * s) = ⟨b, off + i * s, none⟩ := Addr.add_lit ..
  simp [Run, execOp, hS.eval hx, hS.eval hy, Instr.indexAt, run_underlying hT, asIntOf, ptr, hi, run_sizeOf hs, hadd]

theorem r_fieldAddr {t : TypeId} {x : Operand} {b off f s : Nat} {fields : Array Field} {fd : Field} (hS : Slots a n E) (hx : ev E x = some (ptr b off)) (hT : P.underlying t = some (.struct fields)) (hf : fields[f]? = some fd)
    (hs : (P.info? fd.type).map (·.size) = some (s + 1)) : Run P a ⟨dst, .fieldAddr t x f, ty, pos, af, g⟩ w (ptr b (off + fd.offset)) := by
  have hadd : (⟨b, off, none⟩ : Addr).add fd.offset = ⟨b, off + fd.offset, none⟩ := Addr.add_lit ..
  simp [Run, execOp, hS.eval hx, Instr.fieldAt, run_underlying hT, hf, Instr.sureAddr, ptr, fieldPlace, run_sizeOf hs, hadd]

theorem r_nilCheck {x : Operand} {b off : Nat} (hS : Slots a n E) (hx : ev E x = some (ptr b off)) : Run P a ⟨dst, .nilCheck x, ty, pos, af, g⟩ w (ptr b off) := by
  simp [Run, execOp, hS.eval hx, ptr]

/-- an element of an array that is a value -/
theorem r_index {t el : TypeId} {x y : Operand} {cs : Array Value} {len i : Nat} {k : IntKind} {v : Value} {d : TypeDesc} (hS : Slots a n E) (hx : ev E x = some (.agg cs)) (hy : ev E y = some (.int k (i : Int))) (hT : P.underlying t = some (.array len el))
    (hs : (P.info? el).map (·.size) = some 1) (he : P.underlying el = some d) (hd : aggB d = false) (hi : i < len) (hv : cs[i]? = some v) : Run P a ⟨dst, .index t x y, ty, pos, af, g⟩ w v := by
  simp [Run, execOp, hS.eval hx, hS.eval hy, Instr.index, run_underlying hT, asIntOf, hi, run_sizeOf hs, part, run_isAgg he, hd, hv]

/-! ### loads -/

theorem r_load {t : TypeId} {x : Operand} {b off j : Nat} {bt : TypeId} {cs : List Value} {v : Value} {d : TypeDesc} (hS : Slots a n E) (hM : Mem w0 w L) (hx : ev E x = some (ptr b off)) (hj : L[j]? = some ⟨b, bt, cs⟩)
    (hT : P.underlying t = some d) (hd : aggB d = false) (hv : cs[off]? = some v) : Run P a ⟨dst, .load t x, ty, pos, af, g⟩ w v := by
  have := run_loadOne (P := P) (w := w) (a := ⟨b, off, none⟩) hT hd (by rw [hM.cell hj]; exact hv)
  simp [Run, execOp, hS.eval hx, Instr.loadAt, Instr.sureAddr, ptr, this]

theorem r_loadRow {t : TypeId} {x : Operand} {b j : Nat} {bt : TypeId} {cs : List Value} {d : TypeDesc} (hS : Slots a n E) (hM : Mem w0 w L) (hx : ev E x = some (ptr b 0)) (hj : L[j]? = some ⟨b, bt, cs⟩)
    (hT : P.underlying t = some d) (hd : aggB d = true) (hi : (P.info? t).map (·.size) = some cs.length) : Run P a ⟨dst, .load t x, ty, pos, af, g⟩ w (.agg cs.toArray) := by
  have := run_loadRow (P := P) (w := w) (b := b) (off := 0) hT hd hi (fun j v hv => by rw [hM.cell hj, Nat.zero_add]; exact hv)
  simp [Run, execOp, hS.eval hx, Instr.loadAt, Instr.sureAddr, ptr, this]

/-- a part of a block -/
theorem r_loadSub {t : TypeId} {x : Operand} {b j off : Nat} {bt : TypeId} {cs pre mid post : List Value} {d : TypeDesc} (hS : Slots a n E) (hM : Mem w0 w L) (hx : ev E x = some (ptr b off)) (hj : L[j]? = some ⟨b, bt, cs⟩)
    (hcs : cs = pre ++ mid ++ post) (hoff : pre.length = off)
    (hT : P.underlying t = some d) (hd : aggB d = true) (hi : (P.info? t).map (·.size) = some mid.length) : Run P a ⟨dst, .load t x, ty, pos, af, g⟩ w (.agg mid.toArray) := by
  have := run_loadRow (P := P) (w := w) (b := b) (off := off) hT hd hi (fun k v hv => by
    rw [hM.cell hj, hcs, ← hoff]
    have hk : k < mid.length := (List.getElem?_eq_some_iff.1 hv).1
    rw [List.append_assoc, List.getElem?_append_right (by omega), List.getElem?_append_left (by omega), Nat.add_sub_cancel_left]
    exact hv)
  simp [Run, execOp, hS.eval hx, Instr.loadAt, Instr.sureAddr, ptr, this]

/-- a cell that was there when the call began -/
theorem r_loadOut {t : TypeId} {x : Operand} {b off : Nat} {v : Value} {d : TypeDesc} (hS : Slots a n E) (hM : Mem w0 w L) (hx : ev E x = some (ptr b off)) (hb : b < w0.heap.size) (hne : ∀ e ∈ L, e.b ≠ b)
    (hT : P.underlying t = some d) (hd : aggB d = false) (hv : w0.cell? ⟨b, off, none⟩ = some v) : Run P a ⟨dst, .load t x, ty, pos, af, g⟩ w v := by
  have := run_loadOne (P := P) (w := w) (a := ⟨b, off, none⟩) hT hd (by rw [hM.outer (a := ⟨b, off, none⟩) hb hne]; exact hv)
  simp [Run, execOp, hS.eval hx, Instr.loadAt, Instr.sureAddr, ptr, this]

/-! ### what makes or writes memory -/

/-- An operation that hands back v and leaves the world w'. -/
theorem s_op {o : Oper} {d : Nat} {v : Value} {w' : World} (hS : Slots a n E) (hd : d < n) (ho : o.dst = some d) (hg : o.guard = none) (hr : (execOp a.eval o).run P w = .ok (.value v) w')
    (h : ∀ a, Slots a n (put E d v) → wpList P ops Q rest a w') : wpList P ops Q (o :: rest) a w := by
  refine wpList_plain hg (fun K hK => ?_)
  unfold Oper.wp
  rw [hr, Oper.upon_value, ho]
  exact hK _ _ (h _ (hS.put v hd))
theorem s_skipop {o : Oper} {w' : World} (hS : Slots a n E) (ho : o.dst = none) (hg : o.guard = none) (hr : (execOp a.eval o).run P w = .ok .skip w')
    (h : ∀ a, Slots a n E → wpList P ops Q rest a w') : wpList P ops Q (o :: rest) a w := by
  refine wpList_plain hg (fun K hK => ?_)
  unfold Oper.wp
  rw [hr, Oper.upon_skip, ho]
  exact hK _ _ (h _ (hS.put_none undef))

/-- What a variable of a type begins as. -/
def Zero (P : Program) (t : TypeId) (cs : List Value) : Prop := ∀ w, (Instr.alloc t true (.tuple #[])).run P w = .ok (ptr w.heap.size 0) (w.alloc (.cells cs.toArray t (0, 0)))

theorem s_alloc {t : TypeId} {d : Nat} {cs : List Value} (hS : Slots a n E) (hM : Mem w0 w L) (hd : d < n) (hz : Zero P t cs)
    (h : ∀ a b w, w0.heap.size ≤ b → Slots a n (put E d (ptr b 0)) → Mem w0 w (⟨b, t, cs⟩ :: L) → wpList P ops Q rest a w) : wpList P ops Q (⟨some d, .alloc t, ty, pos, af, none⟩ :: rest) a w :=
  s_op hS hd rfl rfl (by simp [execOp, hz w]) (fun a hS => h a _ _ hM.size hS (hM.alloc t cs))

theorem s_box {t : TypeId} {d : Nat} {x : Operand} {v : Value} {cs : List Value} (hS : Slots a n E) (hM : Mem w0 w L) (hd : d < n) (hx : ev E x = some v) (hc : v.cells.toList = cs)
    (h : ∀ a b w, w0.heap.size ≤ b → Slots a n (put E d (ptr b 0)) → Mem w0 w (⟨b, t, cs⟩ :: L) → wpList P ops Q rest a w) : wpList P ops Q (⟨some d, .box t x, ty, pos, af, none⟩ :: rest) a w :=
  s_op (v := ptr w.heap.size 0) (w' := w.alloc (.cells cs.toArray t (0, 0))) hS hd rfl rfl (by
    subst hc
    simp [execOp, hS.eval hx, Instr.box, newVar, newRow, ptr]) (fun a hS => h a _ _ hM.size hS (hM.alloc t cs))

theorem run_storeOne (w : World) (b off : Nat) (v old : Value) (hv : v.oneCell' = true) (hc : w.cell? ⟨b, off, none⟩ = some old) (hf : w.frozen? ⟨b, off, none⟩ = false) :
    (store ⟨b, off, none⟩ v).run P w = .ok () (w.setCell ⟨b, off, none⟩ v) := by
  rw [run_store P w _ v _ hv, hc]
  simp [hf]

theorem s_store {t : TypeId} {x y : Operand} {b off j : Nat} {bt : TypeId} {cs : List Value} {v old : Value} (hS : Slots a n E) (hM : Mem w0 w L) (hx : ev E x = some (ptr b off)) (hy : ev E y = some v) (hj : L[j]? = some ⟨b, bt, cs⟩)
    (hs : (P.info? t).map (·.size) = some 1) (hv : v.oneCell' = true) (hold : cs[off]? = some old)
    (h : ∀ a w, Slots a n E → Mem w0 w (setAt L j (cs.set off v)) → wpList P ops Q rest a w) : wpList P ops Q (⟨none, .store t x y, ty, pos, af, none⟩ :: rest) a w := by
  have hcells : v.cells = #[v] := by cases v <;> first | rfl | (simp [Value.oneCell'] at hv)
  have hst := run_storeOne (P := P) w b off v old hv (by rw [hM.cell hj]; exact hold) (hM.frozen hj off)
  have hadd : (⟨b, off, none⟩ : Addr).add 0 = ⟨b, off, none⟩ := Addr.add_lit ..
  refine s_skipop (w' := w.setCell ⟨b, off, none⟩ v) hS rfl rfl ?_ (fun a hS => h a _ hS (hM.setCell hj off v))
  simp [execOp, hS.eval hx, hS.eval hy, Instr.storeAt, Instr.sureAddr, ptr, storeVar, hcells, run_sizeOf hs, storeCells, hadd, hst]

/-- Cells written one behind the other. -/
def splice (cs : List Value) (off : Nat) : List Value → List Value
  | [] => cs
  | v :: vs => splice (cs.set off v) (off + 1) vs

theorem splice_length (vs : List Value) : ∀ (cs : List Value) (off : Nat), (splice cs off vs).length = cs.length := by
  induction vs with
  | nil => intro cs off; rfl
  | cons v vs ih => intro cs off; simp [splice, ih]

theorem splice_spec : ∀ (vs pre mid post : List Value), mid.length = vs.length → splice (pre ++ mid ++ post) pre.length vs = pre ++ vs ++ post := by
  intro vs
  induction vs with
  | nil => intro pre mid post h; have : mid = [] := List.eq_nil_of_length_eq_zero h; subst this; simp [splice]
  | cons v vs ih =>
    intro pre mid post h
    cases mid with
    | nil => simp at h
    | cons m mid =>
      simp only [splice]
      have e : (pre ++ (m :: mid) ++ post).set pre.length v = (pre ++ [v]) ++ mid ++ post := by
        rw [List.append_assoc, List.set_append_right _ _ (Nat.le_refl _)]
        simp
      rw [e, show pre.length + 1 = (pre ++ [v]).length by simp, ih (pre ++ [v]) mid post (by simpa using h)]
      simp

theorem splice_all (vs cs : List Value) (h : cs.length = vs.length) : splice cs 0 vs = vs := by
  have := splice_spec vs [] cs [] h
  simpa using this

theorem storeCells_run {L : List Blk} {j b : Nat} {bt : TypeId} : ∀ (vs cs : List Value) (base i : Nat) (w : World), Mem w0 w L → L[j]? = some ⟨b, bt, cs⟩ → (∀ v ∈ vs, v.oneCell' = true) → base + i + vs.length ≤ cs.length →
    ∃ w', (storeCells ⟨b, base, none⟩ vs i).run P w = .ok () w' ∧ Mem w0 w' (setAt L j (splice cs (base + i) vs))
  | [], cs, base, i, w, hM, hj, _, _ => ⟨w, rfl, by
      have : setAt L j (splice cs (base + i) []) = L := setAt_same hj
      rw [this]; exact hM⟩
  | v :: vs, cs, base, i, w, hM, hj, hv, hle => by
    have hlt : base + i < cs.length := by simp at hle; omega
    have hadd : (⟨b, base, none⟩ : Addr).add i = ⟨b, base + i, none⟩ := Addr.add_lit ..
    have hst := run_storeOne (P := P) w b (base + i) v cs[base + i] (hv v List.mem_cons_self) (by rw [hM.cell hj]; exact List.getElem?_eq_getElem hlt) (hM.frozen hj _)
    have hM1 := hM.setCell hj (base + i) v
    have hj1 : (setAt L j (cs.set (base + i) v))[j]? = some ⟨b, bt, cs.set (base + i) v⟩ := setAt_get _ hj
    obtain ⟨w', h1, h2⟩ := storeCells_run vs (cs.set (base + i) v) base (i + 1) _ hM1 hj1 (fun u hu => hv u (List.mem_cons_of_mem _ hu)) (by simp at hle ⊢; omega)
    refine ⟨w', ?_, ?_⟩
    · simp only [storeCells, Sem.run_bind, hadd, hst, Result.andThen_ok]
      exact h1
    · have e : setAt (setAt L j (cs.set (base + i) v)) j (splice (cs.set (base + i) v) (base + (i + 1)) vs) = setAt L j (splice cs (base + i) (v :: vs)) := by
        simp only [setAt_setAt, splice, Nat.add_assoc]
      rw [e] at h2
      exact h2

theorem s_storeRow {t : TypeId} {x y : Operand} {b off j : Nat} {bt : TypeId} {cs vs : List Value} (hS : Slots a n E) (hM : Mem w0 w L) (hx : ev E x = some (ptr b off)) (hy : ev E y = some (.agg vs.toArray)) (hj : L[j]? = some ⟨b, bt, cs⟩)
    (hs : (P.info? t).map (·.size) = some vs.length) (hv : ∀ v ∈ vs, v.oneCell' = true) (hle : off + vs.length ≤ cs.length)
    (h : ∀ a w, Slots a n E → Mem w0 w (setAt L j (splice cs off vs)) → wpList P ops Q rest a w) : wpList P ops Q (⟨none, .store t x y, ty, pos, af, none⟩ :: rest) a w := by
  obtain ⟨w', h1, h2⟩ := storeCells_run (P := P) vs cs off 0 w hM hj hv (by omega)
  refine s_skipop (w' := w') hS rfl rfl ?_ (fun a hS => h a _ hS (by simpa using h2))
  simp [execOp, hS.eval hx, hS.eval hy, Instr.storeAt, Instr.sureAddr, ptr, storeVar, Value.cells, run_sizeOf hs, h1]

/-! ### rows of numbers -/

def upd {α : Type} (f : Nat → α) (i : Nat) (v : α) : Nat → α := fun j => if j = i then v else f j
/-- n cells, the i-th the value of f i. -/
def cells (n : Nat) (f : Nat → Value) : List Value := (List.range n).map f
abbrev cU (n : Nat) (f : Nat → BitVec 64) : List Value := cells n (fun i => U (f i))
abbrev cB (n : Nat) (f : Nat → BitVec 8) : List Value := cells n (fun i => B (f i))
abbrev cI (n : Nat) (f : Nat → BitVec 64) : List Value := cells n (fun i => I (f i))

theorem cells_len {m : Nat} {f : Nat → Value} : (cells m f).length = m := by simp [cells]
theorem cells_get {m i : Nat} {f : Nat → Value} (h : i < m) : (cells m f)[i]? = some (f i) := by simp [cells, h]
theorem cells_get' {m i : Nat} {f : Nat → Value} (h : i < m) : (cells m f).toArray[i]? = some (f i) := by simp [cells, h]
theorem cells_congr {m : Nat} {f g : Nat → Value} (h : ∀ i, i < m → f i = g i) : cells m f = cells m g := by
  unfold cells
  exact List.map_congr_left fun i hi => h i (List.mem_range.1 hi)
theorem cU_congr {m : Nat} {f g : Nat → BitVec 64} (h : ∀ i, i < m → f i = g i) : cU m f = cU m g := cells_congr fun i hi => by rw [h i hi]
theorem cB_congr {m : Nat} {f g : Nat → BitVec 8} (h : ∀ i, i < m → f i = g i) : cB m f = cB m g := cells_congr fun i hi => by rw [h i hi]
theorem cI_congr {m : Nat} {f g : Nat → BitVec 64} (h : ∀ i, i < m → f i = g i) : cI m f = cI m g := cells_congr fun i hi => by rw [h i hi]
theorem cells_set {m i : Nat} {f : Nat → Value} (v : Value) : (cells m f).set i v = cells m (upd f i v) := by
  apply List.ext_getElem?
  intro k
  rw [List.getElem?_set]
  by_cases hk : i = k
  · subst hk
    simp only [if_true, cells_len]
    split
    · rename_i h; rw [cells_get h]; simp [upd]
    · rename_i h; rw [List.getElem?_eq_none (by rw [cells_len]; omega)]
  · rw [if_neg hk]
    by_cases hm : k < m
    · rw [cells_get hm, cells_get hm]; simp only [upd, if_neg (show ¬ k = i from fun e => hk e.symm)]
    · rw [List.getElem?_eq_none (by rw [cells_len]; omega), List.getElem?_eq_none (by rw [cells_len]; omega)]
theorem cU_set {m i : Nat} {f : Nat → BitVec 64} (v : BitVec 64) : (cU m f).set i (U v) = cU m (upd f i v) := by
  rw [cU, cells_set]; exact cells_congr fun j _ => by unfold upd; split <;> rfl
theorem cB_set {m i : Nat} {f : Nat → BitVec 8} (v : BitVec 8) : (cB m f).set i (B v) = cB m (upd f i v) := by
  rw [cB, cells_set]; exact cells_congr fun j _ => by unfold upd; split <;> rfl
theorem cI_set {m i : Nat} {f : Nat → BitVec 64} (v : BitVec 64) : (cI m f).set i (I v) = cI m (upd f i v) := by
  rw [cI, cells_set]; exact cells_congr fun j _ => by unfold upd; split <;> rfl
theorem cU_one {m : Nat} {f : Nat → BitVec 64} : ∀ v ∈ cU m f, v.oneCell' = true := by
  intro v hv; obtain ⟨i, _, rfl⟩ := List.mem_map.1 hv; rfl
theorem cB_one {m : Nat} {f : Nat → BitVec 8} : ∀ v ∈ cB m f, v.oneCell' = true := by
  intro v hv; obtain ⟨i, _, rfl⟩ := List.mem_map.1 hv; rfl
theorem cI_one {m : Nat} {f : Nat → BitVec 64} : ∀ v ∈ cI m f, v.oneCell' = true := by
  intro v hv; obtain ⟨i, _, rfl⟩ := List.mem_map.1 hv; rfl

theorem s_storeU {t : TypeId} {x y : Operand} {b i j m : Nat} {bt : TypeId} {f : Nat → BitVec 64} {v : BitVec 64} (hS : Slots a n E) (hM : Mem w0 w L) (hx : ev E x = some (ptr b i)) (hy : ev E y = some (U v)) (hj : L[j]? = some ⟨b, bt, cU m f⟩)
    (hs : (P.info? t).map (·.size) = some 1) (hi : i < m) (h : ∀ a w, Slots a n E → Mem w0 w (setAt L j (cU m (upd f i v))) → wpList P ops Q rest a w) : wpList P ops Q (⟨none, .store t x y, ty, pos, af, none⟩ :: rest) a w :=
  s_store hS hM hx hy hj hs rfl (cells_get hi) (by rw [cU_set]; exact h)
theorem s_storeB {t : TypeId} {x y : Operand} {b i j m : Nat} {bt : TypeId} {f : Nat → BitVec 8} {v : BitVec 8} (hS : Slots a n E) (hM : Mem w0 w L) (hx : ev E x = some (ptr b i)) (hy : ev E y = some (B v)) (hj : L[j]? = some ⟨b, bt, cB m f⟩)
    (hs : (P.info? t).map (·.size) = some 1) (hi : i < m) (h : ∀ a w, Slots a n E → Mem w0 w (setAt L j (cB m (upd f i v))) → wpList P ops Q rest a w) : wpList P ops Q (⟨none, .store t x y, ty, pos, af, none⟩ :: rest) a w :=
  s_store hS hM hx hy hj hs rfl (cells_get hi) (by rw [cB_set]; exact h)
theorem s_storeI {t : TypeId} {x y : Operand} {b i j m : Nat} {bt : TypeId} {f : Nat → BitVec 64} {v : BitVec 64} (hS : Slots a n E) (hM : Mem w0 w L) (hx : ev E x = some (ptr b i)) (hy : ev E y = some (I v)) (hj : L[j]? = some ⟨b, bt, cI m f⟩)
    (hs : (P.info? t).map (·.size) = some 1) (hi : i < m) (h : ∀ a w, Slots a n E → Mem w0 w (setAt L j (cI m (upd f i v))) → wpList P ops Q rest a w) : wpList P ops Q (⟨none, .store t x y, ty, pos, af, none⟩ :: rest) a w :=
  s_store hS hM hx hy hj hs rfl (cells_get hi) (by rw [cI_set]; exact h)
/-- A whole block is written. -/
theorem s_storeAll {t : TypeId} {x y : Operand} {b j m : Nat} {bt : TypeId} {cs vs : List Value} (hS : Slots a n E) (hM : Mem w0 w L) (hx : ev E x = some (ptr b 0)) (hy : ev E y = some (.agg vs.toArray)) (hj : L[j]? = some ⟨b, bt, cs⟩)
    (hs : (P.info? t).map (·.size) = some m) (hvs : vs.length = m) (hcs : cs.length = m) (hv : ∀ v ∈ vs, v.oneCell' = true)
    (h : ∀ a w, Slots a n E → Mem w0 w (setAt L j vs) → wpList P ops Q rest a w) : wpList P ops Q (⟨none, .store t x y, ty, pos, af, none⟩ :: rest) a w :=
  s_storeRow hS hM hx hy hj (by rw [hs, hvs]) hv (by omega) (by rw [splice_all vs cs (by omega)]; exact h)
theorem r_loadAll {t : TypeId} {x : Operand} {b j m : Nat} {bt : TypeId} {cs : List Value} {d : TypeDesc} (hS : Slots a n E) (hM : Mem w0 w L) (hx : ev E x = some (ptr b 0)) (hj : L[j]? = some ⟨b, bt, cs⟩)
    (hT : P.underlying t = some d) (hd : aggB d = true) (hi : (P.info? t).map (·.size) = some m) (hl : cs.length = m) : Run P a ⟨dst, .load t x, ty, pos, af, g⟩ w (.agg cs.toArray) :=
  r_loadRow hS hM hx hj hT hd (by rw [hi, hl])
/-- an address in an array that is a whole block -/
theorem r_index0 {t el : TypeId} {x y : Operand} {b len i : Nat} {k : IntKind} (hS : Slots a n E) (hx : ev E x = some (ptr b 0)) (hy : ev E y = some (.int k (i : Int))) (hT : P.underlying t = some (.array len el))
    (hs : (P.info? el).map (·.size) = some 1) (hi : i < len) : Run P a ⟨dst, .indexAddr t x y, ty, pos, af, g⟩ w (ptr b i) := by
  have := r_indexA (P := P) (w := w) (dst := dst) (ty := ty) (pos := pos) (af := af) (g := g) hS hx hy hT hs hi
  simpa using this
theorem r_index1 {t el : TypeId} {x y : Operand} {b off len i : Nat} {k : IntKind} (hS : Slots a n E) (hx : ev E x = some (ptr b off)) (hy : ev E y = some (.int k (i : Int))) (hT : P.underlying t = some (.array len el))
    (hs : (P.info? el).map (·.size) = some 1) (hi : i < len) : Run P a ⟨dst, .indexAddr t x y, ty, pos, af, g⟩ w (ptr b (off + i)) := by
  have := r_indexA (P := P) (w := w) (dst := dst) (ty := ty) (pos := pos) (af := af) (g := g) hS hx hy hT hs hi
  simpa using this
theorem r_indexS1 {t el : TypeId} {x y : Operand} {b off len cap i : Nat} {k : IntKind} (hS : Slots a n E) (hx : ev E x = some (.slice (some ⟨b, off, none⟩) len cap)) (hy : ev E y = some (.int k (i : Int))) (hT : P.underlying t = some (.slice el))
    (hs : (P.info? el).map (·.size) = some 1) (hi : i < len) : Run P a ⟨dst, .indexAddr t x y, ty, pos, af, g⟩ w (ptr b (off + i)) := by
  have := r_indexS (P := P) (w := w) (dst := dst) (ty := ty) (pos := pos) (af := af) (g := g) hS hx hy hT hs hi
  simpa using this

theorem r_indexS0 {t el : TypeId} {x y : Operand} {b len cap i : Nat} {k : IntKind} (hS : Slots a n E) (hx : ev E x = some (.slice (some ⟨b, 0, none⟩) len cap)) (hy : ev E y = some (.int k (i : Int))) (hT : P.underlying t = some (.slice el))
    (hs : (P.info? el).map (·.size) = some 1) (hi : i < len) : Run P a ⟨dst, .indexAddr t x y, ty, pos, af, g⟩ w (ptr b i) := by
  have := r_indexS (P := P) (w := w) (dst := dst) (ty := ty) (pos := pos) (af := af) (g := g) hS hx hy hT hs hi
  simpa using this

theorem r_len {x : Operand} {ad : Option Addr} {len cap : Nat} {t el : TypeId} (hS : Slots a n E) (hx : ev E x = some (.slice ad len cap)) (hT : P.underlying t = some (.slice el)) :
    Run P a ⟨dst, .call ⟨.builtin .len, #[x], #[t]⟩, ty, pos, af, g⟩ w (N len) := by
  simp [Run, execOp, resolve, invoke, builtin, hS.eval hx, Builtin.len_, run_underlying hT, N, goInt]

/-! ### literals -/

def evp (E : Nat → Option Value) : List (Nat × Operand) → Option (List (Nat × Value))
  | [] => some []
  | (i, x) :: xs => match ev E x, evp E xs with
    | some v, some vs => some ((i, v) :: vs)
    | _, _ => none

theorem Slots.evalp (hS : Slots a n E) : ∀ {xs : List (Nat × Operand)} {vs : List (Nat × Value)}, evp E xs = some vs → xs.map (fun p => (p.1, a.eval p.2)) = vs
  | [], _, h => by simp [evp] at h; subst h; rfl
  | (i, x) :: xs, vs, h => by
    simp only [evp] at h
    split at h
    · rename_i v vs' h1 h2
      cases h
      rw [List.map_cons, hS.eval h1, Slots.evalp (xs := xs) hS h2]
    · cases h

theorem r_build {t : TypeId} {xs : List (Nat × Operand)} {vs : List (Nat × Value)} {cs : List Value} (hS : Slots a n E) (hx : evp E xs = some vs)
    (hb : ∀ w, (Instr.build t vs.toArray).run P w = .ok (.agg cs.toArray) w) : Run P a ⟨dst, .build t xs.toArray, ty, pos, af, g⟩ w (.agg cs.toArray) := by
  have h := Slots.evalp (xs := xs) hS hx
  have h' : Array.map (fun (p : Nat × Operand) => (p.1, a.eval p.2)) xs.toArray = vs.toArray := by rw [← h]; simp
  simp [Run, execOp, h', hb w]

def lst {α : Type} (z : α) (l : List α) : Nat → α := fun i => l.getD i z

/-! rows held against each other -/

theorem run_eql_rows {t e : TypeId} {m : Nat} {d : TypeDesc} (ht : P.underlying t = some (.array m e)) (he : P.underlying e = some d) (hd : aggB d = false) (hsz : (P.info? e).map (·.size) = some 1) (F G : Nat → Value) (c : Nat → Bool)
    (hc : ∀ i w, i < m → (Op.equalIn 9999 e (F i) (G i)).run P w = .ok (c i) w) (w : World) :
    (binOp .eql t (.agg (cells m F).toArray) (.agg (cells m G).toArray)).run P w = .ok (.bool ((List.range m).all c)) w := by
  have key : (Op.equalIn 10000 t (.agg (cells m F).toArray) (.agg (cells m G).toArray)).run P w = .ok ((List.range m).all c) w := by
    rw [List.range_eq_range', Op.equalIn]
    simp only [Sem.run_bind, run_underlying ht, Result.andThen_ok, run_sizeOf hsz, Std.Legacy.Range.forIn_eq_forIn_range', Std.Legacy.Range.size, Nat.sub_zero, Nat.add_sub_cancel, Nat.div_one]
    have hl : ∀ i ∈ List.range' 0 m 1, i < m := fun i hi => by simpa using (List.mem_range'_1.1 hi).2
    generalize List.range' 0 m 1 = l at hl ⊢
    induction l with
    | nil => simp
    | cons i l ih =>
      have hi : i < m := hl i (by simp)
      have px : (part e (cells m F).toArray (i * 1)).run P w = .ok (F i) w := by
        simp [part, run_isAgg he, hd, cells_get hi]
      have py : (part e (cells m G).toArray (i * 1)).run P w = .ok (G i) w := by
        simp [part, run_isAgg he, hd, cells_get hi]
      simp only [List.forIn_cons, Sem.run_bind, px, py, hc i w hi, Result.andThen_ok, List.all_cons]
      cases hb : c i
      · simp
      · simp only [Bool.not_true, Bool.false_eq_true, if_false, Sem.run_pure, Result.andThen_ok, Bool.true_and]
        exact ih fun j hj => hl j (by simp [hj])
  rw [run_eql_struct, key]
  rfl

def eqR {α : Type} [DecidableEq α] (m : Nat) (f g : Nat → α) : Bool := (List.range m).all fun i => decide (f i = g i)
theorem eqR_iff {α : Type} [DecidableEq α] {m : Nat} {f g : Nat → α} : eqR m f g = true ↔ ∀ i, i < m → f i = g i := by
  unfold eqR
  rw [List.all_eq_true]
  exact ⟨fun h i hi => of_decide_eq_true (h i (List.mem_range.2 hi)), fun h i hi => decide_eq_true (h i (List.mem_range.1 hi))⟩
theorem eqR_true {α : Type} [DecidableEq α] {m : Nat} {f g : Nat → α} (h : ∀ i, i < m → f i = g i) : eqR m f g = true := eqR_iff.2 h

theorem r_eqlRows {t t' e : TypeId} {x y : Operand} {m : Nat} {d : TypeDesc} {F G : Nat → Value} {c : Nat → Bool} {b : Bool} (hS : Slots a n E) (hx : ev E x = some (.agg (cells m F).toArray)) (hy : ev E y = some (.agg (cells m G).toArray))
    (hq : P.eqGuardType P.depth t = false) (ht : P.underlying t = some (.array m e)) (he : P.underlying e = some d) (hd : aggB d = false) (hsz : (P.info? e).map (·.size) = some 1)
    (hc : ∀ i w, i < m → (Op.equalIn 9999 e (F i) (G i)).run P w = .ok (c i) w) (hb : (List.range m).all c = b) : Run P a ⟨dst, .binOp .eql t x y t', ty, pos, af, g⟩ w (.bool b) := by
  have h1 := run_eqGuard_agg (P := P) w .eql t x y (cells m F).toArray (cells m G).toArray hq
  have h2 := run_eql_rows (P := P) ht he hd hsz F G c hc w
  subst hb
  simp [Run, execOp, hS.eval hx, hS.eval hy, h1, h2]

theorem eqU {e : TypeId} (he : P.underlying e = some (.int .u64)) (x y : BitVec 64) (w : World) : (Op.equalIn 9999 e (U x) (U y)).run P w = .ok (decide (x = y)) w := by
  have h := run_equalIn_int (P := P) w 9998 e .u64 .u64 (x.toNat : Int) (y.toNat : Int) he
  have e1 : ((x.toNat : Int) == (y.toNat : Int)) = decide (x = y) := by
    rw [Bool.eq_iff_iff]; simp only [beq_iff_eq, decide_eq_true_eq]; rw [← BitVec.toNat_inj]; omega
  rw [e1] at h
  exact h
theorem eqB {e : TypeId} (he : P.underlying e = some (.int .u8)) (x y : BitVec 8) (w : World) : (Op.equalIn 9999 e (B x) (B y)).run P w = .ok (decide (x = y)) w := by
  have h := run_equalIn_int (P := P) w 9998 e .u8 .u8 (x.toNat : Int) (y.toNat : Int) he
  have e1 : ((x.toNat : Int) == (y.toNat : Int)) = decide (x = y) := by
    rw [Bool.eq_iff_iff]; simp only [beq_iff_eq, decide_eq_true_eq]; rw [← BitVec.toNat_inj]; omega
  rw [e1] at h
  exact h
theorem eqI {e : TypeId} (he : P.underlying e = some (.int .i64)) (x y : BitVec 64) (w : World) : (Op.equalIn 9999 e (I x) (I y)).run P w = .ok (decide (x = y)) w := by
  have h := run_equalIn_int (P := P) w 9998 e .i64 .i64 x.toInt y.toInt he
  have e1 : (x.toInt == y.toInt) = decide (x = y) := by
    rw [Bool.eq_iff_iff]; simp only [beq_iff_eq, decide_eq_true_eq, BitVec.toInt_inj]
  rw [e1] at h
  exact h

theorem r_eqlU {t t' e : TypeId} {x y : Operand} {m : Nat} {f h : Nat → BitVec 64} (hS : Slots a n E) (hx : ev E x = some (.agg (cU m f).toArray)) (hy : ev E y = some (.agg (cU m h).toArray))
    (hq : P.eqGuardType P.depth t = false) (ht : P.underlying t = some (.array m e)) (he : P.underlying e = some (.int .u64)) (hsz : (P.info? e).map (·.size) = some 1) : Run P a ⟨dst, .binOp .eql t x y t', ty, pos, af, g⟩ w (.bool (eqR m f h)) :=
  r_eqlRows hS hx hy hq ht he rfl hsz (fun i w _ => eqU he (f i) (h i) w) rfl
theorem r_eqlB {t t' e : TypeId} {x y : Operand} {m : Nat} {f h : Nat → BitVec 8} (hS : Slots a n E) (hx : ev E x = some (.agg (cB m f).toArray)) (hy : ev E y = some (.agg (cB m h).toArray))
    (hq : P.eqGuardType P.depth t = false) (ht : P.underlying t = some (.array m e)) (he : P.underlying e = some (.int .u8)) (hsz : (P.info? e).map (·.size) = some 1) : Run P a ⟨dst, .binOp .eql t x y t', ty, pos, af, g⟩ w (.bool (eqR m f h)) :=
  r_eqlRows hS hx hy hq ht he rfl hsz (fun i w _ => eqB he (f i) (h i) w) rfl
theorem r_eqlI {t t' e : TypeId} {x y : Operand} {m : Nat} {f h : Nat → BitVec 64} (hS : Slots a n E) (hx : ev E x = some (.agg (cI m f).toArray)) (hy : ev E y = some (.agg (cI m h).toArray))
    (hq : P.eqGuardType P.depth t = false) (ht : P.underlying t = some (.array m e)) (he : P.underlying e = some (.int .i64)) (hsz : (P.info? e).map (·.size) = some 1) : Run P a ⟨dst, .binOp .eql t x y t', ty, pos, af, g⟩ w (.bool (eqR m f h)) :=
  r_eqlRows hS hx hy hq ht he rfl hsz (fun i w _ => eqI he (f i) (h i) w) rfl

/-- A slice of a known size, made. -/
def Made (P : Program) (t : TypeId) (el : TypeId) (m : Nat) (cs : List Value) : Prop := ∀ w, (Instr.makeSlice t (N m) (N m)).run P w = .ok (.slice (some ⟨w.heap.size, 0, none⟩) m m) (w.alloc (.cells cs.toArray el (0, 0)))
theorem s_make {t el : TypeId} {d m : Nat} {x y : Operand} {cs : List Value} (hS : Slots a n E) (hM : Mem w0 w L) (hd : d < n) (hx : ev E x = some (N m)) (hy : ev E y = some (N m)) (hz : Made P t el m cs)
    (h : ∀ a b w, w0.heap.size ≤ b → Slots a n (put E d (.slice (some ⟨b, 0, none⟩) m m)) → Mem w0 w (⟨b, el, cs⟩ :: L) → wpList P ops Q rest a w) : wpList P ops Q (⟨some d, .makeSlice t x y, ty, pos, af, none⟩ :: rest) a w :=
  s_op hS hd rfl rfl (by simp [execOp, hS.eval hx, hS.eval hy, hz w]) (fun a hS => h a _ _ hM.size hS (hM.alloc el cs))

/-! ### calls -/

def evs (E : Nat → Option Value) : List Operand → Option (List Value)
  | [] => some []
  | x :: xs => match ev E x, evs E xs with
    | some v, some vs => some (v :: vs)
    | _, _ => none

theorem Slots.evals (hS : Slots a n E) : ∀ {xs : List Operand} {vs : List Value}, evs E xs = some vs → xs.map a.eval = vs
  | [], _, h => by simp [evs] at h; subst h; rfl
  | x :: xs, vs, h => by
    simp only [evs] at h
    split at h
    · rename_i v vs' h1 h2
      cases h
      rw [List.map_cons, hS.eval h1, Slots.evals (xs := xs) hS h2]
    · cases h

/-- A function that has a body of its own. -/
def callable (P : Program) (f : FuncId) : Bool := match P.funcs[f]? with
  | some fn => !(fn.name == "runtime.NumGoroutine") && fn.body.isSome
  | none => false

theorem run_callFunc {f : FuncId} (hf : callable P f = true) (args : Array Value) : (callFunc f args).run P w = .ok (.enter f args) w := by
  unfold callable at hf
  split at hf
  · rename_i fn hfn
    simp only [Bool.and_eq_true, Bool.not_eq_true'] at hf
    have h2 : fn.body.isNone = false := by
      cases hb : fn.body with
      | none => rw [hb] at hf; cases hf.2
      | some c => rfl
    have h1 : ¬ fn.name = "runtime.NumGoroutine" := by simpa using hf.1
    have h3 : ¬ fn.body = none := by intro e; rw [e] at h2; cases h2
    simp [callFunc, hfn, h1, h3]
  · cases hf

theorem run_call {f : FuncId} {xs : List Operand} {ats : Array TypeId} {vs : List Value} (hf : callable P f = true) (hS : Slots a n E) (hx : evs E xs = some vs) :
    (execOp a.eval ⟨dst, .call ⟨.value (.func f), xs.toArray, ats⟩, ty, pos, af, g⟩).run P w = .ok (.enter f vs.toArray) w := by
  have h := Slots.evals (xs := xs) hS hx
  have h' : Array.map a.eval xs.toArray = vs.toArray := by rw [← h]; simp
  rw [execOp_call_go]
  simp only [Array.empty_append, Array.append_empty, h']
  exact run_callFunc hf _

/-- A call that leaves all memory that was there as it was. -/
structure Pure (P : Program) (f : FuncId) (args : Array Value) (w : World) (v : Value) : Prop where
  ok : callable P f = true
  calls : Calls P f args w fun e w' => e = .returned v ∧ Mem w w' []

theorem s_call {f : FuncId} {xs : List Operand} {ats : Array TypeId} {vs : List Value} {d : Nat} {R : Ending → World → Prop} (hf : callable P f = true) (hS : Slots a n E) (hd : d < n) (hx : evs E xs = some vs) (hc : Calls P f vs.toArray w R)
    (h : ∀ e w', R e w' → ∃ v, e = .returned v ∧ ∀ a, Slots a n (put E d v) → wpList P ops Q rest a w') : wpList P ops Q (⟨some d, .call ⟨.value (.func f), xs.toArray, ats⟩, ty, pos, af, none⟩ :: rest) a w := by
  refine wpList_plain rfl (fun K hK => ?_)
  unfold Oper.wp
  rw [run_call hf hS hx, Oper.upon_enter]
  refine hc.mono ?_
  intro e w' hR
  obtain ⟨v, rfl, h'⟩ := h e w' hR
  exact hK _ _ (h' _ (hS.put v hd))

theorem s_pure {f : FuncId} {xs : List Operand} {ats : Array TypeId} {vs : List Value} {d : Nat} {v : Value} (hS : Slots a n E) (hM : Mem w0 w L) (hd : d < n) (hx : evs E xs = some vs) (hc : Pure P f vs.toArray w v)
    (h : ∀ a w, Slots a n (put E d v) → Mem w0 w L → wpList P ops Q rest a w) : wpList P ops Q (⟨some d, .call ⟨.value (.func f), xs.toArray, ats⟩, ty, pos, af, none⟩ :: rest) a w :=
  s_call hc.ok hS hd hx hc.calls (by rintro e w' ⟨rfl, h'⟩; exact ⟨v, rfl, fun a hS => h a w' hS (hM.after h')⟩)

/-- a guarded call that is made -/
theorem s_pureg {f : FuncId} {xs : List Operand} {ats : Array TypeId} {vs : List Value} {d j dj : Nat} {b : Bool} {oj : Oper} {v : Value} (hS : Slots a n E) (hM : Mem w0 w L) (hd : d < n) (hx : evs E xs = some vs) (hj : ops[j]? = some oj) (hdj : oj.dst = some dj)
    (hb : E dj = some (.bool b)) (hc : Pure P f vs.toArray w v)
    (h : ∀ a w, Slots a n (put E d v) → Mem w0 w L → wpList P ops Q rest a w) : wpList P ops Q (⟨some d, .call ⟨.value (.func f), xs.toArray, ats⟩, ty, pos, af, some (j, b)⟩ :: rest) a w := by
  have hw : Region.wanted ⟨some d, .call ⟨.value (.func f), xs.toArray, ats⟩, ty, pos, af, some (j, b)⟩ (yielded ops a.tmps) = true := by
    have := hS.get _ _ hb
    simp [Region.wanted, yielded, hj, hdj, this]
  refine wpList_step (fun K hK => ?_)
  rw [if_pos hw]
  unfold Oper.wp
  rw [run_call hc.ok hS hx, Oper.upon_enter]
  refine hc.calls.mono ?_
  rintro e w' ⟨rfl, h'⟩
  exact hK _ _ (h _ w' (hS.put v hd) (hM.after h'))

end

/-! ### in a region that draws its order -/

section
variable {P : Program} {ops : List Oper} {n : Nat} {C : World → Prop} {es : List (Nat × Value)} {K : (Nat → Value) → Prop} {l rest : List Oper} {o : Oper} {i : Nat} {vals : Nat → Value} {v : Value} {a : Act} {w w0 : World} {E : Nat → Option Value}

theorem p_step (hl : l = o :: rest) (h : ∀ a w, Slots a n (predEnv ops o es vals) → C w → Yields P ops C o a w v) (hn : plan P ops n C es K rest (i + 1) (vput vals i v)) : plan P ops n C es K l i vals := by
  subst hl; exact ⟨v, h, hn⟩
theorem p_nil (hl : l = []) (h : K vals) : plan P ops n C es K l i vals := by subst hl; exact h

theorem y_val (hg : o.guard = none) (hr : Run P a o w v) : Yields P ops C o a w v := .inl ⟨by simp [Region.wanted, hg], .inl hr⟩
theorem y_valg {j dj : Nat} {b : Bool} {oj : Oper} (hS : Slots a n E) (hg : o.guard = some (j, b)) (hj : ops[j]? = some oj) (hdj : oj.dst = some dj) (hb : E dj = some (.bool b)) (hr : Run P a o w v) : Yields P ops C o a w v := by
  refine .inl ⟨?_, .inl hr⟩
  have := hS.get _ _ hb
  have hj' : ops.toArray[j]? = some oj := by simpa using hj
  simp [Region.wanted, hg, yielded, hj', hdj, this]
theorem y_skip {j dj : Nat} {b : Bool} {oj : Oper} (hS : Slots a n E) (hg : o.guard = some (j, b)) (hj : ops[j]? = some oj) (hdj : oj.dst = some dj) (hb : E dj = some (.bool !b)) : Yields P ops C o a w undef := by
  refine .inr ⟨?_, rfl⟩
  have := hS.get _ _ hb
  have hj' : ops.toArray[j]? = some oj := by simpa using hj
  simp [Region.wanted, hg, yielded, hj', hdj, this]
variable {dst : Option Nat} {ty : TypeId} {pos : String} {af : Array Edge}
theorem y_call {f : FuncId} {xs : List Operand} {ats : Array TypeId} {vs : List Value} (hf : callable P f = true) (hS : Slots a n E) (hx : evs E xs = some vs) (hc : Calls P f vs.toArray w fun e w' => e = .returned v ∧ C w') :
    Yields P ops C ⟨dst, .call ⟨.value (.func f), xs.toArray, ats⟩, ty, pos, af, none⟩ a w v :=
  .inl ⟨by simp [Region.wanted], .inr ⟨f, _, run_call hf hS hx, hc⟩⟩
theorem y_callg {f : FuncId} {xs : List Operand} {ats : Array TypeId} {vs : List Value} {j dj : Nat} {b : Bool} {oj : Oper} (hf : callable P f = true) (hS : Slots a n E) (hx : evs E xs = some vs) (hj : ops[j]? = some oj) (hdj : oj.dst = some dj) (hb : E dj = some (.bool b))
    (hc : Calls P f vs.toArray w fun e w' => e = .returned v ∧ C w') :
    Yields P ops C ⟨dst, .call ⟨.value (.func f), xs.toArray, ats⟩, ty, pos, af, some (j, b)⟩ a w v := by
  refine .inl ⟨?_, .inr ⟨f, _, run_call hf hS hx, hc⟩⟩
  have := hS.get _ _ hb
  have hj' : ops.toArray[j]? = some oj := by simpa using hj
  simp [Region.wanted, yielded, hj', hdj, this]

theorem Pure.mem {f : FuncId} {args : Array Value} {L : List Blk} (h : Pure P f args w v) (hM : Mem w0 w L) : Calls P f args w fun e w' => e = .returned v ∧ Mem w0 w' L :=
  h.calls.mono fun _ _ ⟨he, h'⟩ => ⟨he, hM.after h'⟩
end
end Go.Sym
