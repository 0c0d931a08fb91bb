import Derived.Test.YtgmieahcpkcabaaGreatBn1
import Derived.Deep.AppendSrc
import Derived.Laws.Slices
import Derived.ProofKit
import Derived.OpenShut
import Derived.ShutString
import Derived.ChangeOld
import Derived.ChangeSlices
import Derived.DataReads
import Derived.Carry
import Derived.JoinedTies
import Derived.RowKit
namespace Go.Sym
open Go Go.RowKit
section
variable {P : Program} {Q : Exit → Act → World → Prop} {a : Act} {w w0 : World} {n : Nat} {E : Nat → Option Value} {L : List Blk} {ops : Array Oper} {rest : List Oper}
variable {dst : Option Nat} {ty : TypeId} {pos : String} {af : Array Edge} {g : Option (Nat × Bool)}
theorem r_bv {op : BinOp} {t t' : TypeId} {x y : Operand} {u u' v : Value} (hS : Slots a n E) (hx : ev E x = some u) (hy : ev E y = some u') (hu : ∀ v, eqGuard op t x y u v = pure ())
    (h : binOp op t u u' = pure v) : Run P a ⟨dst, .binOp op t x y t', ty, pos, af, g⟩ w v := by
  simp [Run, execOp, hS.eval hx, hS.eval hy, hu, h]
theorem gU {op : BinOp} {t : TypeId} {x y : Operand} {u : BitVec 64} : ∀ v, eqGuard op t x y (U u) v = pure () := fun _ => eqGuard_at_int ..
theorem gW {op : BinOp} {t : TypeId} {x y : Operand} {u : BitVec 32} : ∀ v, eqGuard op t x y (W u) v = pure () := fun _ => eqGuard_at_int ..
theorem gB {op : BinOp} {t : TypeId} {x y : Operand} {u : BitVec 8} : ∀ v, eqGuard op t x y (B u) v = pure () := fun _ => eqGuard_at_int ..
theorem gN {op : BinOp} {t : TypeId} {x y : Operand} {u : Nat} : ∀ v, eqGuard op t x y (N u) v = pure () := fun _ => eqGuard_at_int ..
theorem gZ {op : BinOp} {t : TypeId} {x y : Operand} {k : IntKind} {u : Int} : ∀ v, eqGuard op t x y (.int k u) v = pure () := fun _ => eqGuard_at_int ..
theorem r_conv {s d : TypeId} {x : Operand} {k kd : IntKind} {m : Int} {v : Value} (hS : Slots a n E) (hx : ev E x = some (.int k m)) (hs : (P.underlying s).isSome = true) (hd : P.underlying d = some (.int kd))
    (hv : Value.int kd (kd.wrap m) = v) : Run P a ⟨dst, .convert s d x, ty, pos, af, g⟩ w v := by
  have hk : P.intKind d = kd := by unfold Program.intKind; rw [hd]
  have := run_convert_int (P := P) w s d k m hs (by rw [hk]; exact hd)
  rw [hk] at this
  simp [Run, execOp, hS.eval hx, this, hv]
theorem cv_BU (x : BitVec 8) : Value.int .u64 (IntKind.u64.wrap (x.toNat : Int)) = U (x.setWidth 64) := by
  rw [wrapU, BitVec.ofInt_natCast]; unfold U; congr 3; apply BitVec.eq_of_toNat_eq; simp
theorem cv_UB (x : BitVec 64) : Value.int .u8 (IntKind.u8.wrap (x.toNat : Int)) = B (x.setWidth 8) := by
  rw [wrapB, BitVec.ofInt_natCast]; unfold B; congr 2
theorem cv_WB (x : BitVec 32) : Value.int .u8 (IntKind.u8.wrap (x.toNat : Int)) = B (x.setWidth 8) := by
  rw [wrapB, BitVec.ofInt_natCast]; unfold B; congr 2
theorem cv_BN (x : BitVec 8) : Value.int .i64 (IntKind.i64.wrap (x.toNat : Int)) = N x.toNat := by rw [wrapN _ (by omega)]; rfl
theorem cv_NU (m : Nat) : Value.int .u64 (IntKind.u64.wrap (m : Int)) = U (BitVec.ofNat 64 m) := by rw [wrapU, BitVec.ofInt_natCast]; rfl
theorem cv_ZU (m : Int) : Value.int .u64 (IntKind.u64.wrap m) = U (BitVec.ofInt 64 m) := by rw [wrapU]; rfl
theorem r_notU {t : TypeId} {x : Operand} {u : BitVec 64} (hS : Slots a n E) (hx : ev E x = some (U u)) : Run P a ⟨dst, .unOp .xor t x, ty, pos, af, g⟩ w (U (~~~u)) := by
  have h : Op.unary .xor (U u) = pure (U (~~~u)) := by
    show (pure (Value.int .u64 (IntKind.u64.wrap ((BitVec.ofInt 64 _ ^^^ BitVec.ofInt 64 _).toNat : Int))) : Sem Value) = _
    have e : BitVec.ofInt 64 (if IntKind.u64.signed then -1 else IntKind.u64.max) = BitVec.allOnes 64 := by decide
    rw [ofInt_nat, wrapU, ofInt_nat, e, BitVec.allOnes_xor]
    rfl
  simp [Run, execOp, hS.eval hx, h]
theorem r_negZ {t : TypeId} {x : Operand} {z : Int} (hS : Slots a n E) (hx : ev E x = some (.int .i64 z)) (h : -9223372036854775808 ≤ -z ∧ -z < 9223372036854775808) : Run P a ⟨dst, .unOp .neg t x, ty, pos, af, g⟩ w (.int .i64 (-z)) := by
  have h : Op.unary .neg (.int .i64 z) = pure (.int .i64 (-z)) := by
    show (pure (Value.int .i64 (IntKind.i64.wrap (0 - z))) : Sem Value) = _
    rw [Int.zero_sub, wrapZ _ h]
  simp [Run, execOp, hS.eval hx, h]
theorem r_indexA {t el : TypeId} {x y : Operand} {b off len i s : Nat} {k : IntKind} (hS : Slots a n E) (hx : ev E x = some (ptr b off)) (hy : ev E y = some (.int k (i : Int))) (hT : P.underlying t = some (.array len el))
    (hs : (P.info? el).map (·.size) = some s) (hi : i < len) : Run P a ⟨dst, .indexAddr t x y, ty, pos, af, g⟩ w (ptr b (off + i * s)) := by
  have hadd : (⟨b, off, none⟩ : Addr).add (i * s) = ⟨b, off + i * s, none⟩ := Addr.add_lit ..
  simp [Run, execOp, hS.eval hx, hS.eval hy, Instr.indexAt, run_underlying hT, Instr.sureAddr, asIntOf, ptr, hi, run_sizeOf hs, hadd]
theorem r_indexS {t el : TypeId} {x y : Operand} {b off len cap i s : Nat} {k : IntKind} (hS : Slots a n E) (hx : ev E x = some (.slice (some ⟨b, off, none⟩) len cap)) (hy : ev E y = some (.int k (i : Int))) (hT : P.underlying t = some (.slice el))
    (hs : (P.info? el).map (·.size) = some s) (hi : i < len) : Run P a ⟨dst, .indexAddr t x y, ty, pos, af, g⟩ w (ptr b (off + i * s)) := by
  have hadd : (⟨b, off, none⟩ : Addr).add (i * s) = ⟨b, off + i * s, none⟩ := Addr.add_lit ..
  simp [Run, execOp, hS.eval hx, hS.eval hy, Instr.indexAt, run_underlying hT, asIntOf, ptr, hi, run_sizeOf hs, hadd]
theorem r_fieldAddr {t : TypeId} {x : Operand} {b off f s : Nat} {fields : Array Field} {fd : Field} (hS : Slots a n E) (hx : ev E x = some (ptr b off)) (hT : P.underlying t = some (.struct fields)) (hf : fields[f]? = some fd)
    (hs : (P.info? fd.type).map (·.size) = some (s + 1)) : Run P a ⟨dst, .fieldAddr t x f, ty, pos, af, g⟩ w (ptr b (off + fd.offset)) := by
  have hadd : (⟨b, off, none⟩ : Addr).add fd.offset = ⟨b, off + fd.offset, none⟩ := Addr.add_lit ..
  simp [Run, execOp, hS.eval hx, Instr.fieldAt, run_underlying hT, hf, Instr.sureAddr, ptr, fieldPlace, run_sizeOf hs, hadd]
theorem r_nilCheck {x : Operand} {b off : Nat} (hS : Slots a n E) (hx : ev E x = some (ptr b off)) : Run P a ⟨dst, .nilCheck x, ty, pos, af, g⟩ w (ptr b off) := by
  simp [Run, execOp, hS.eval hx, ptr]
theorem r_index {t el : TypeId} {x y : Operand} {cs : Array Value} {len i : Nat} {k : IntKind} {v : Value} {d : TypeDesc} (hS : Slots a n E) (hx : ev E x = some (.agg cs)) (hy : ev E y = some (.int k (i : Int))) (hT : P.underlying t = some (.array len el))
    (hs : (P.info? el).map (·.size) = some 1) (he : P.underlying el = some d) (hd : aggB d = false) (hi : i < len) (hv : cs[i]? = some v) : Run P a ⟨dst, .index t x y, ty, pos, af, g⟩ w v := by
  simp [Run, execOp, hS.eval hx, hS.eval hy, Instr.index, run_underlying hT, asIntOf, hi, run_sizeOf hs, part, run_isAgg he, hd, hv]
theorem r_load {t : TypeId} {x : Operand} {b off j : Nat} {bt : TypeId} {cs : List Value} {v : Value} {d : TypeDesc} (hS : Slots a n E) (hM : Mem w0 w L) (hx : ev E x = some (ptr b off)) (hj : L[j]? = some ⟨b, bt, cs⟩)
    (hT : P.underlying t = some d) (hd : aggB d = false) (hv : cs[off]? = some v) : Run P a ⟨dst, .load t x, ty, pos, af, g⟩ w v := by
  have := run_loadOne (P := P) (w := w) (a := ⟨b, off, none⟩) hT hd (by rw [hM.cell hj]; exact hv)
  simp [Run, execOp, hS.eval hx, Instr.loadAt, Instr.sureAddr, ptr, this]
theorem r_loadRow {t : TypeId} {x : Operand} {b j : Nat} {bt : TypeId} {cs : List Value} {d : TypeDesc} (hS : Slots a n E) (hM : Mem w0 w L) (hx : ev E x = some (ptr b 0)) (hj : L[j]? = some ⟨b, bt, cs⟩)
    (hT : P.underlying t = some d) (hd : aggB d = true) (hi : (P.info? t).map (·.size) = some cs.length) : Run P a ⟨dst, .load t x, ty, pos, af, g⟩ w (.agg cs.toArray) := by
  have := run_loadRow (P := P) (w := w) (b := b) (off := 0) hT hd hi (fun j v hv => by rw [hM.cell hj, Nat.zero_add]; exact hv)
  simp [Run, execOp, hS.eval hx, Instr.loadAt, Instr.sureAddr, ptr, this]
theorem r_loadSub {t : TypeId} {x : Operand} {b j off : Nat} {bt : TypeId} {cs pre mid post : List Value} {d : TypeDesc} (hS : Slots a n E) (hM : Mem w0 w L) (hx : ev E x = some (ptr b off)) (hj : L[j]? = some ⟨b, bt, cs⟩)
    (hcs : cs = pre ++ mid ++ post) (hoff : pre.length = off)
    (hT : P.underlying t = some d) (hd : aggB d = true) (hi : (P.info? t).map (·.size) = some mid.length) : Run P a ⟨dst, .load t x, ty, pos, af, g⟩ w (.agg mid.toArray) := by
  have := run_loadRow (P := P) (w := w) (b := b) (off := off) hT hd hi (fun k v hv => by
    rw [hM.cell hj, hcs, ← hoff]
    have hk : k < mid.length := (List.getElem?_eq_some_iff.1 hv).1
    rw [List.append_assoc, List.getElem?_append_right (by omega), List.getElem?_append_left (by omega), Nat.add_sub_cancel_left]
    exact hv)
  simp [Run, execOp, hS.eval hx, Instr.loadAt, Instr.sureAddr, ptr, this]
theorem r_loadOut {t : TypeId} {x : Operand} {b off : Nat} {v : Value} {d : TypeDesc} (hS : Slots a n E) (hM : Mem w0 w L) (hx : ev E x = some (ptr b off)) (hb : b < w0.heap.size) (hne : ∀ e ∈ L, e.b ≠ b)
    (hT : P.underlying t = some d) (hd : aggB d = false) (hv : w0.cell? ⟨b, off, none⟩ = some v) : Run P a ⟨dst, .load t x, ty, pos, af, g⟩ w v := by
  have := run_loadOne (P := P) (w := w) (a := ⟨b, off, none⟩) hT hd (by rw [hM.outer (a := ⟨b, off, none⟩) hb hne]; exact hv)
  simp [Run, execOp, hS.eval hx, Instr.loadAt, Instr.sureAddr, ptr, this]
theorem s_op {o : Oper} {d : Nat} {v : Value} {w' : World} (hS : Slots a n E) (hd : d < n) (ho : o.dst = some d) (hg : o.guard = none) (hr : (execOp a.eval o).run P w = .ok (.value v) w')
    (h : ∀ a, Slots a n (put E d v) → wpList P ops Q rest a w') : wpList P ops Q (o :: rest) a w := by
  refine wpList_plain hg (fun K hK => ?_)
  unfold Oper.wp
  rw [hr, Oper.upon_value, ho]
  exact hK _ _ (h _ (hS.put v hd))
theorem s_skipop {o : Oper} {w' : World} (hS : Slots a n E) (ho : o.dst = none) (hg : o.guard = none) (hr : (execOp a.eval o).run P w = .ok .skip w')
    (h : ∀ a, Slots a n E → wpList P ops Q rest a w') : wpList P ops Q (o :: rest) a w := by
  refine wpList_plain hg (fun K hK => ?_)
  unfold Oper.wp
  rw [hr, Oper.upon_skip, ho]
  exact hK _ _ (h _ (hS.put_none undef))
def Zero (P : Program) (t : TypeId) (cs : List Value) : Prop := ∀ w, (Instr.alloc t true (.tuple #[])).run P w = .ok (ptr w.heap.size 0) (w.alloc (.cells cs.toArray t (0, 0)))
theorem s_alloc {t : TypeId} {d : Nat} {cs : List Value} (hS : Slots a n E) (hM : Mem w0 w L) (hd : d < n) (hz : Zero P t cs)
    (h : ∀ a b w, w0.heap.size ≤ b → Slots a n (put E d (ptr b 0)) → Mem w0 w (⟨b, t, cs⟩ :: L) → wpList P ops Q rest a w) : wpList P ops Q (⟨some d, .alloc t, ty, pos, af, none⟩ :: rest) a w :=
  s_op hS hd rfl rfl (by simp [execOp, hz w]) (fun a hS => h a _ _ hM.size hS (hM.alloc t cs))
theorem s_box {t : TypeId} {d : Nat} {x : Operand} {v : Value} {cs : List Value} (hS : Slots a n E) (hM : Mem w0 w L) (hd : d < n) (hx : ev E x = some v) (hc : v.cells.toList = cs)
    (h : ∀ a b w, w0.heap.size ≤ b → Slots a n (put E d (ptr b 0)) → Mem w0 w (⟨b, t, cs⟩ :: L) → wpList P ops Q rest a w) : wpList P ops Q (⟨some d, .box t x, ty, pos, af, none⟩ :: rest) a w :=
  s_op (v := ptr w.heap.size 0) (w' := w.alloc (.cells cs.toArray t (0, 0))) hS hd rfl rfl (by
    subst hc
    simp [execOp, hS.eval hx, Instr.box, newVar, newRow, ptr]) (fun a hS => h a _ _ hM.size hS (hM.alloc t cs))
theorem run_storeOne (w : World) (b off : Nat) (v old : Value) (hv : v.oneCell' = true) (hc : w.cell? ⟨b, off, none⟩ = some old) (hf : w.frozen? ⟨b, off, none⟩ = false) :
    (store ⟨b, off, none⟩ v).run P w = .ok () (w.setCell ⟨b, off, none⟩ v) := by
  rw [run_store P w _ v _ hv, hc]
  simp [hf]
theorem s_store {t : TypeId} {x y : Operand} {b off j : Nat} {bt : TypeId} {cs : List Value} {v old : Value} (hS : Slots a n E) (hM : Mem w0 w L) (hx : ev E x = some (ptr b off)) (hy : ev E y = some v) (hj : L[j]? = some ⟨b, bt, cs⟩)
    (hs : (P.info? t).map (·.size) = some 1) (hv : v.oneCell' = true) (hold : cs[off]? = some old)
    (h : ∀ a w, Slots a n E → Mem w0 w (setAt L j (cs.set off v)) → wpList P ops Q rest a w) : wpList P ops Q (⟨none, .store t x y, ty, pos, af, none⟩ :: rest) a w := by
  have hcells : v.cells = #[v] := by cases v <;> first | rfl | (simp [Value.oneCell'] at hv)
  have hst := run_storeOne (P := P) w b off v old hv (by rw [hM.cell hj]; exact hold) (hM.frozen hj off)
  have hadd : (⟨b, off, none⟩ : Addr).add 0 = ⟨b, off, none⟩ := Addr.add_lit ..
  refine s_skipop (w' := w.setCell ⟨b, off, none⟩ v) hS rfl rfl ?_ (fun a hS => h a _ hS (hM.setCell hj off v))
  simp [execOp, hS.eval hx, hS.eval hy, Instr.storeAt, Instr.sureAddr, ptr, storeVar, hcells, run_sizeOf hs, storeCells, hadd, hst]
def splice (cs : List Value) (off : Nat) : List Value → List Value
  | [] => cs
  | v :: vs => splice (cs.set off v) (off + 1) vs
theorem splice_spec : ∀ (vs pre mid post : List Value), mid.length = vs.length → splice (pre ++ mid ++ post) pre.length vs = pre ++ vs ++ post := by
  intro vs
  induction vs with
  | nil => intro pre mid post h; have : mid = [] := List.eq_nil_of_length_eq_zero h; subst this; simp [splice]
  | cons v vs ih =>
    intro pre mid post h
    cases mid with
    | nil => simp at h
    | cons m mid =>
      simp only [splice]
      have e : (pre ++ (m :: mid) ++ post).set pre.length v = (pre ++ [v]) ++ mid ++ post := by
        rw [List.append_assoc, List.set_append_right _ _ (Nat.le_refl _)]
        simp
      rw [e, show pre.length + 1 = (pre ++ [v]).length by simp, ih (pre ++ [v]) mid post (by simpa using h)]
      simp
theorem splice_all (vs cs : List Value) (h : cs.length = vs.length) : splice cs 0 vs = vs := by
  have := splice_spec vs [] cs [] h
  simpa using this
theorem storeCells_run {L : List Blk} {j b : Nat} {bt : TypeId} : ∀ (vs cs : List Value) (base i : Nat) (w : World), Mem w0 w L → L[j]? = some ⟨b, bt, cs⟩ → (∀ v ∈ vs, v.oneCell' = true) → base + i + vs.length ≤ cs.length →
    ∃ w', (storeCells ⟨b, base, none⟩ vs i).run P w = .ok () w' ∧ Mem w0 w' (setAt L j (splice cs (base + i) vs))
  | [], cs, base, i, w, hM, hj, _, _ => ⟨w, rfl, by
      have : setAt L j (splice cs (base + i) []) = L := setAt_same hj
      rw [this]; exact hM⟩
  | v :: vs, cs, base, i, w, hM, hj, hv, hle => by
    have hlt : base + i < cs.length := by simp at hle; omega
    have hadd : (⟨b, base, none⟩ : Addr).add i = ⟨b, base + i, none⟩ := Addr.add_lit ..
    have hst := run_storeOne (P := P) w b (base + i) v cs[base + i] (hv v List.mem_cons_self) (by rw [hM.cell hj]; exact List.getElem?_eq_getElem hlt) (hM.frozen hj _)
    have hM1 := hM.setCell hj (base + i) v
    have hj1 : (setAt L j (cs.set (base + i) v))[j]? = some ⟨b, bt, cs.set (base + i) v⟩ := setAt_get _ hj
    obtain ⟨w', h1, h2⟩ := storeCells_run vs (cs.set (base + i) v) base (i + 1) _ hM1 hj1 (fun u hu => hv u (List.mem_cons_of_mem _ hu)) (by simp at hle ⊢; omega)
    refine ⟨w', ?_, ?_⟩
    · simp only [storeCells, Sem.run_bind, hadd, hst, Result.andThen_ok]
      exact h1
    · have e : setAt (setAt L j (cs.set (base + i) v)) j (splice (cs.set (base + i) v) (base + (i + 1)) vs) = setAt L j (splice cs (base + i) (v :: vs)) := by
        simp only [setAt_setAt, splice, Nat.add_assoc]
      rw [e] at h2
      exact h2
theorem s_storeRow {t : TypeId} {x y : Operand} {b off j : Nat} {bt : TypeId} {cs vs : List Value} (hS : Slots a n E) (hM : Mem w0 w L) (hx : ev E x = some (ptr b off)) (hy : ev E y = some (.agg vs.toArray)) (hj : L[j]? = some ⟨b, bt, cs⟩)
    (hs : (P.info? t).map (·.size) = some vs.length) (hv : ∀ v ∈ vs, v.oneCell' = true) (hle : off + vs.length ≤ cs.length)
    (h : ∀ a w, Slots a n E → Mem w0 w (setAt L j (splice cs off vs)) → wpList P ops Q rest a w) : wpList P ops Q (⟨none, .store t x y, ty, pos, af, none⟩ :: rest) a w := by
  obtain ⟨w', h1, h2⟩ := storeCells_run (P := P) vs cs off 0 w hM hj hv (by omega)
  refine s_skipop (w' := w') hS rfl rfl ?_ (fun a hS => h a _ hS (by simpa using h2))
  simp [execOp, hS.eval hx, hS.eval hy, Instr.storeAt, Instr.sureAddr, ptr, storeVar, Value.cells, run_sizeOf hs, h1]
def upd {α : Type} (f : Nat → α) (i : Nat) (v : α) : Nat → α := fun j => if j = i then v else f j
def cells (n : Nat) (f : Nat → Value) : List Value := (List.range n).map f
abbrev cU (n : Nat) (f : Nat → BitVec 64) : List Value := cells n (fun i => U (f i))
abbrev cB (n : Nat) (f : Nat → BitVec 8) : List Value := cells n (fun i => B (f i))
theorem cells_len {m : Nat} {f : Nat → Value} : (cells m f).length = m := by simp [cells]
theorem cells_get {m i : Nat} {f : Nat → Value} (h : i < m) : (cells m f)[i]? = some (f i) := by simp [cells, h]
theorem cells_get' {m i : Nat} {f : Nat → Value} (h : i < m) : (cells m f).toArray[i]? = some (f i) := by simp [cells, h]
theorem cells_congr {m : Nat} {f g : Nat → Value} (h : ∀ i, i < m → f i = g i) : cells m f = cells m g := by
  unfold cells
  exact List.map_congr_left fun i hi => h i (List.mem_range.1 hi)
theorem cU_congr {m : Nat} {f g : Nat → BitVec 64} (h : ∀ i, i < m → f i = g i) : cU m f = cU m g := cells_congr fun i hi => by rw [h i hi]
theorem cB_congr {m : Nat} {f g : Nat → BitVec 8} (h : ∀ i, i < m → f i = g i) : cB m f = cB m g := cells_congr fun i hi => by rw [h i hi]
theorem cells_set {m i : Nat} {f : Nat → Value} (v : Value) : (cells m f).set i v = cells m (upd f i v) := by
  apply List.ext_getElem?
  intro k
  rw [List.getElem?_set]
  by_cases hk : i = k
  · subst hk
    simp only [if_true, cells_len]
    split
    · rename_i h; rw [cells_get h]; simp [upd]
    · rename_i h; rw [List.getElem?_eq_none (by rw [cells_len]; omega)]
  · rw [if_neg hk]
    by_cases hm : k < m
    · rw [cells_get hm, cells_get hm]; simp only [upd, if_neg (show ¬ k = i from fun e => hk e.symm)]
    · rw [List.getElem?_eq_none (by rw [cells_len]; omega), List.getElem?_eq_none (by rw [cells_len]; omega)]
theorem cU_set {m i : Nat} {f : Nat → BitVec 64} (v : BitVec 64) : (cU m f).set i (U v) = cU m (upd f i v) := by
  rw [cU, cells_set]; exact cells_congr fun j _ => by unfold upd; split <;> rfl
theorem cB_set {m i : Nat} {f : Nat → BitVec 8} (v : BitVec 8) : (cB m f).set i (B v) = cB m (upd f i v) := by
  rw [cB, cells_set]; exact cells_congr fun j _ => by unfold upd; split <;> rfl
theorem cU_one {m : Nat} {f : Nat → BitVec 64} : ∀ v ∈ cU m f, v.oneCell' = true := by
  intro v hv; obtain ⟨i, _, rfl⟩ := List.mem_map.1 hv; rfl
theorem cB_one {m : Nat} {f : Nat → BitVec 8} : ∀ v ∈ cB m f, v.oneCell' = true := by
  intro v hv; obtain ⟨i, _, rfl⟩ := List.mem_map.1 hv; rfl
theorem s_storeU {t : TypeId} {x y : Operand} {b i j m : Nat} {bt : TypeId} {f : Nat → BitVec 64} {v : BitVec 64} (hS : Slots a n E) (hM : Mem w0 w L) (hx : ev E x = some (ptr b i)) (hy : ev E y = some (U v)) (hj : L[j]? = some ⟨b, bt, cU m f⟩)
    (hs : (P.info? t).map (·.size) = some 1) (hi : i < m) (h : ∀ a w, Slots a n E → Mem w0 w (setAt L j (cU m (upd f i v))) → wpList P ops Q rest a w) : wpList P ops Q (⟨none, .store t x y, ty, pos, af, none⟩ :: rest) a w :=
  s_store hS hM hx hy hj hs rfl (cells_get hi) (by rw [cU_set]; exact h)
theorem s_storeB {t : TypeId} {x y : Operand} {b i j m : Nat} {bt : TypeId} {f : Nat → BitVec 8} {v : BitVec 8} (hS : Slots a n E) (hM : Mem w0 w L) (hx : ev E x = some (ptr b i)) (hy : ev E y = some (B v)) (hj : L[j]? = some ⟨b, bt, cB m f⟩)
    (hs : (P.info? t).map (·.size) = some 1) (hi : i < m) (h : ∀ a w, Slots a n E → Mem w0 w (setAt L j (cB m (upd f i v))) → wpList P ops Q rest a w) : wpList P ops Q (⟨none, .store t x y, ty, pos, af, none⟩ :: rest) a w :=
  s_store hS hM hx hy hj hs rfl (cells_get hi) (by rw [cB_set]; exact h)
theorem s_storeAll {t : TypeId} {x y : Operand} {b j m : Nat} {bt : TypeId} {cs vs : List Value} (hS : Slots a n E) (hM : Mem w0 w L) (hx : ev E x = some (ptr b 0)) (hy : ev E y = some (.agg vs.toArray)) (hj : L[j]? = some ⟨b, bt, cs⟩)
    (hs : (P.info? t).map (·.size) = some m) (hvs : vs.length = m) (hcs : cs.length = m) (hv : ∀ v ∈ vs, v.oneCell' = true)
    (h : ∀ a w, Slots a n E → Mem w0 w (setAt L j vs) → wpList P ops Q rest a w) : wpList P ops Q (⟨none, .store t x y, ty, pos, af, none⟩ :: rest) a w :=
  s_storeRow hS hM hx hy hj (by rw [hs, hvs]) hv (by omega) (by rw [splice_all vs cs (by omega)]; exact h)
theorem r_loadAll {t : TypeId} {x : Operand} {b j m : Nat} {bt : TypeId} {cs : List Value} {d : TypeDesc} (hS : Slots a n E) (hM : Mem w0 w L) (hx : ev E x = some (ptr b 0)) (hj : L[j]? = some ⟨b, bt, cs⟩)
    (hT : P.underlying t = some d) (hd : aggB d = true) (hi : (P.info? t).map (·.size) = some m) (hl : cs.length = m) : Run P a ⟨dst, .load t x, ty, pos, af, g⟩ w (.agg cs.toArray) :=
  r_loadRow hS hM hx hj hT hd (by rw [hi, hl])
theorem r_index0 {t el : TypeId} {x y : Operand} {b len i : Nat} {k : IntKind} (hS : Slots a n E) (hx : ev E x = some (ptr b 0)) (hy : ev E y = some (.int k (i : Int))) (hT : P.underlying t = some (.array len el))
    (hs : (P.info? el).map (·.size) = some 1) (hi : i < len) : Run P a ⟨dst, .indexAddr t x y, ty, pos, af, g⟩ w (ptr b i) := by
  have := r_indexA (P := P) (w := w) (dst := dst) (ty := ty) (pos := pos) (af := af) (g := g) hS hx hy hT hs hi
  simpa using this
theorem r_index1 {t el : TypeId} {x y : Operand} {b off len i : Nat} {k : IntKind} (hS : Slots a n E) (hx : ev E x = some (ptr b off)) (hy : ev E y = some (.int k (i : Int))) (hT : P.underlying t = some (.array len el))
    (hs : (P.info? el).map (·.size) = some 1) (hi : i < len) : Run P a ⟨dst, .indexAddr t x y, ty, pos, af, g⟩ w (ptr b (off + i)) := by
  have := r_indexA (P := P) (w := w) (dst := dst) (ty := ty) (pos := pos) (af := af) (g := g) hS hx hy hT hs hi
  simpa using this
theorem r_indexS1 {t el : TypeId} {x y : Operand} {b off len cap i : Nat} {k : IntKind} (hS : Slots a n E) (hx : ev E x = some (.slice (some ⟨b, off, none⟩) len cap)) (hy : ev E y = some (.int k (i : Int))) (hT : P.underlying t = some (.slice el))
    (hs : (P.info? el).map (·.size) = some 1) (hi : i < len) : Run P a ⟨dst, .indexAddr t x y, ty, pos, af, g⟩ w (ptr b (off + i)) := by
  have := r_indexS (P := P) (w := w) (dst := dst) (ty := ty) (pos := pos) (af := af) (g := g) hS hx hy hT hs hi
  simpa using this
theorem r_indexS0 {t el : TypeId} {x y : Operand} {b len cap i : Nat} {k : IntKind} (hS : Slots a n E) (hx : ev E x = some (.slice (some ⟨b, 0, none⟩) len cap)) (hy : ev E y = some (.int k (i : Int))) (hT : P.underlying t = some (.slice el))
    (hs : (P.info? el).map (·.size) = some 1) (hi : i < len) : Run P a ⟨dst, .indexAddr t x y, ty, pos, af, g⟩ w (ptr b i) := by
  have := r_indexS (P := P) (w := w) (dst := dst) (ty := ty) (pos := pos) (af := af) (g := g) hS hx hy hT hs hi
  simpa using this
theorem r_len {x : Operand} {ad : Option Addr} {len cap : Nat} {t el : TypeId} (hS : Slots a n E) (hx : ev E x = some (.slice ad len cap)) (hT : P.underlying t = some (.slice el)) :
    Run P a ⟨dst, .call ⟨.builtin .len, #[x], #[t]⟩, ty, pos, af, g⟩ w (N len) := by
  simp [Run, execOp, resolve, invoke, builtin, hS.eval hx, Builtin.len_, run_underlying hT, N, goInt]
def evp (E : Nat → Option Value) : List (Nat × Operand) → Option (List (Nat × Value))
  | [] => some []
  | (i, x) :: xs => match ev E x, evp E xs with
    | some v, some vs => some ((i, v) :: vs)
    | _, _ => none
theorem Slots.evalp (hS : Slots a n E) : ∀ {xs : List (Nat × Operand)} {vs : List (Nat × Value)}, evp E xs = some vs → xs.map (fun p => (p.1, a.eval p.2)) = vs
  | [], _, h => by simp [evp] at h; subst h; rfl
  | (i, x) :: xs, vs, h => by
    simp only [evp] at h
    split at h
    · rename_i v vs' h1 h2
      cases h
      rw [List.map_cons, hS.eval h1, Slots.evalp (xs := xs) hS h2]
    · cases h
theorem r_build {t : TypeId} {xs : List (Nat × Operand)} {vs : List (Nat × Value)} {cs : List Value} (hS : Slots a n E) (hx : evp E xs = some vs)
    (hb : ∀ w, (Instr.build t vs.toArray).run P w = .ok (.agg cs.toArray) w) : Run P a ⟨dst, .build t xs.toArray, ty, pos, af, g⟩ w (.agg cs.toArray) := by
  have h := Slots.evalp (xs := xs) hS hx
  have h' : Array.map (fun (p : Nat × Operand) => (p.1, a.eval p.2)) xs.toArray = vs.toArray := by rw [← h]; simp
  simp [Run, execOp, h', hb w]
def lst {α : Type} (z : α) (l : List α) : Nat → α := fun i => l.getD i z
theorem run_eql_rows {t e : TypeId} {m : Nat} {d : TypeDesc} (ht : P.underlying t = some (.array m e)) (he : P.underlying e = some d) (hd : aggB d = false) (hsz : (P.info? e).map (·.size) = some 1) (F G : Nat → Value) (c : Nat → Bool)
    (hc : ∀ i w, i < m → (Op.equalIn 9999 e (F i) (G i)).run P w = .ok (c i) w) (w : World) :
    (binOp .eql t (.agg (cells m F).toArray) (.agg (cells m G).toArray)).run P w = .ok (.bool ((List.range m).all c)) w := by
  have key : (Op.equalIn 10000 t (.agg (cells m F).toArray) (.agg (cells m G).toArray)).run P w = .ok ((List.range m).all c) w := by
    rw [List.range_eq_range', Op.equalIn]
    simp only [Sem.run_bind, run_underlying ht, Result.andThen_ok, run_sizeOf hsz, Std.Legacy.Range.forIn_eq_forIn_range', Std.Legacy.Range.size, Nat.sub_zero, Nat.add_sub_cancel, Nat.div_one]
    have hl : ∀ i ∈ List.range' 0 m 1, i < m := fun i hi => by simpa using (List.mem_range'_1.1 hi).2
    generalize List.range' 0 m 1 = l at hl ⊢
    induction l with
    | nil => simp
    | cons i l ih =>
      have hi : i < m := hl i (by simp)
      have px : (part e (cells m F).toArray (i * 1)).run P w = .ok (F i) w := by
        simp [part, run_isAgg he, hd, cells_get hi]
      have py : (part e (cells m G).toArray (i * 1)).run P w = .ok (G i) w := by
        simp [part, run_isAgg he, hd, cells_get hi]
      simp only [List.forIn_cons, Sem.run_bind, px, py, hc i w hi, Result.andThen_ok, List.all_cons]
      cases hb : c i
      · simp
      · simp only [Bool.not_true, Bool.false_eq_true, if_false, Sem.run_pure, Result.andThen_ok, Bool.true_and]
        exact ih fun j hj => hl j (by simp [hj])
  rw [run_eql_struct, key]
  rfl
def eqR {α : Type} [DecidableEq α] (m : Nat) (f g : Nat → α) : Bool := (List.range m).all fun i => decide (f i = g i)
theorem eqR_iff {α : Type} [DecidableEq α] {m : Nat} {f g : Nat → α} : eqR m f g = true ↔ ∀ i, i < m → f i = g i := by
  unfold eqR
  rw [List.all_eq_true]
  exact ⟨fun h i hi => of_decide_eq_true (h i (List.mem_range.2 hi)), fun h i hi => decide_eq_true (h i (List.mem_range.1 hi))⟩
theorem eqR_true {α : Type} [DecidableEq α] {m : Nat} {f g : Nat → α} (h : ∀ i, i < m → f i = g i) : eqR m f g = true := eqR_iff.2 h
theorem r_eqlRows {t t' e : TypeId} {x y : Operand} {m : Nat} {d : TypeDesc} {F G : Nat → Value} {c : Nat → Bool} {b : Bool} (hS : Slots a n E) (hx : ev E x = some (.agg (cells m F).toArray)) (hy : ev E y = some (.agg (cells m G).toArray))
    (hq : P.eqGuardType P.depth t = false) (ht : P.underlying t = some (.array m e)) (he : P.underlying e = some d) (hd : aggB d = false) (hsz : (P.info? e).map (·.size) = some 1)
    (hc : ∀ i w, i < m → (Op.equalIn 9999 e (F i) (G i)).run P w = .ok (c i) w) (hb : (List.range m).all c = b) : Run P a ⟨dst, .binOp .eql t x y t', ty, pos, af, g⟩ w (.bool b) := by
  have h1 := run_eqGuard_agg (P := P) w .eql t x y (cells m F).toArray (cells m G).toArray hq
  have h2 := run_eql_rows (P := P) ht he hd hsz F G c hc w
  subst hb
  simp [Run, execOp, hS.eval hx, hS.eval hy, h1, h2]
theorem eqU {e : TypeId} (he : P.underlying e = some (.int .u64)) (x y : BitVec 64) (w : World) : (Op.equalIn 9999 e (U x) (U y)).run P w = .ok (decide (x = y)) w := by
  have h := run_equalIn_int (P := P) w 9998 e .u64 .u64 (x.toNat : Int) (y.toNat : Int) he
  have e1 : ((x.toNat : Int) == (y.toNat : Int)) = decide (x = y) := by
    rw [Bool.eq_iff_iff]; simp only [beq_iff_eq, decide_eq_true_eq]; rw [← BitVec.toNat_inj]; omega
  rw [e1] at h
  exact h
theorem eqB {e : TypeId} (he : P.underlying e = some (.int .u8)) (x y : BitVec 8) (w : World) : (Op.equalIn 9999 e (B x) (B y)).run P w = .ok (decide (x = y)) w := by
  have h := run_equalIn_int (P := P) w 9998 e .u8 .u8 (x.toNat : Int) (y.toNat : Int) he
  have e1 : ((x.toNat : Int) == (y.toNat : Int)) = decide (x = y) := by
    rw [Bool.eq_iff_iff]; simp only [beq_iff_eq, decide_eq_true_eq]; rw [← BitVec.toNat_inj]; omega
  rw [e1] at h
  exact h
theorem r_eqlB {t t' e : TypeId} {x y : Operand} {m : Nat} {f h : Nat → BitVec 8} (hS : Slots a n E) (hx : ev E x = some (.agg (cB m f).toArray)) (hy : ev E y = some (.agg (cB m h).toArray))
    (hq : P.eqGuardType P.depth t = false) (ht : P.underlying t = some (.array m e)) (he : P.underlying e = some (.int .u8)) (hsz : (P.info? e).map (·.size) = some 1) : Run P a ⟨dst, .binOp .eql t x y t', ty, pos, af, g⟩ w (.bool (eqR m f h)) :=
  r_eqlRows hS hx hy hq ht he rfl hsz (fun i w _ => eqB he (f i) (h i) w) rfl
def Made (P : Program) (t : TypeId) (el : TypeId) (m : Nat) (cs : List Value) : Prop := ∀ w, (Instr.makeSlice t (N m) (N m)).run P w = .ok (.slice (some ⟨w.heap.size, 0, none⟩) m m) (w.alloc (.cells cs.toArray el (0, 0)))
theorem s_make {t el : TypeId} {d m : Nat} {x y : Operand} {cs : List Value} (hS : Slots a n E) (hM : Mem w0 w L) (hd : d < n) (hx : ev E x = some (N m)) (hy : ev E y = some (N m)) (hz : Made P t el m cs)
    (h : ∀ a b w, w0.heap.size ≤ b → Slots a n (put E d (.slice (some ⟨b, 0, none⟩) m m)) → Mem w0 w (⟨b, el, cs⟩ :: L) → wpList P ops Q rest a w) : wpList P ops Q (⟨some d, .makeSlice t x y, ty, pos, af, none⟩ :: rest) a w :=
  s_op hS hd rfl rfl (by simp [execOp, hS.eval hx, hS.eval hy, hz w]) (fun a hS => h a _ _ hM.size hS (hM.alloc el cs))
def evs (E : Nat → Option Value) : List Operand → Option (List Value)
  | [] => some []
  | x :: xs => match ev E x, evs E xs with
    | some v, some vs => some (v :: vs)
    | _, _ => none
theorem Slots.evals (hS : Slots a n E) : ∀ {xs : List Operand} {vs : List Value}, evs E xs = some vs → xs.map a.eval = vs
  | [], _, h => by simp [evs] at h; subst h; rfl
  | x :: xs, vs, h => by
    simp only [evs] at h
    split at h
    · rename_i v vs' h1 h2
      cases h
      rw [List.map_cons, hS.eval h1, Slots.evals (xs := xs) hS h2]
    · cases h
def callable (P : Program) (f : FuncId) : Bool := match P.funcs[f]? with
  | some fn => !(fn.name == "runtime.NumGoroutine") && fn.body.isSome
  | none => false
theorem run_callFunc {f : FuncId} (hf : callable P f = true) (args : Array Value) : (callFunc f args).run P w = .ok (.enter f args) w := by
  unfold callable at hf
  split at hf
  · rename_i fn hfn
    simp only [Bool.and_eq_true, Bool.not_eq_true'] at hf
    have h2 : fn.body.isNone = false := by
      cases hb : fn.body with
      | none => rw [hb] at hf; cases hf.2
      | some c => rfl
    have h1 : ¬ fn.name = "runtime.NumGoroutine" := by simpa using hf.1
    have h3 : ¬ fn.body = none := by intro e; rw [e] at h2; cases h2
    simp [callFunc, hfn, h1, h3]
  · cases hf
theorem run_call {f : FuncId} {xs : List Operand} {ats : Array TypeId} {vs : List Value} (hf : callable P f = true) (hS : Slots a n E) (hx : evs E xs = some vs) :
    (execOp a.eval ⟨dst, .call ⟨.value (.func f), xs.toArray, ats⟩, ty, pos, af, g⟩).run P w = .ok (.enter f vs.toArray) w := by
  have h := Slots.evals (xs := xs) hS hx
  have h' : Array.map a.eval xs.toArray = vs.toArray := by rw [← h]; simp
  rw [execOp_call_go]
  simp only [Array.empty_append, Array.append_empty, h']
  exact run_callFunc hf _
structure Pure (P : Program) (f : FuncId) (args : Array Value) (w : World) (v : Value) : Prop where
  ok : callable P f = true
  calls : Calls P f args w fun e w' => e = .returned v ∧ Mem w w' []
theorem s_call {f : FuncId} {xs : List Operand} {ats : Array TypeId} {vs : List Value} {d : Nat} {R : Ending → World → Prop} (hf : callable P f = true) (hS : Slots a n E) (hd : d < n) (hx : evs E xs = some vs) (hc : Calls P f vs.toArray w R)
    (h : ∀ e w', R e w' → ∃ v, e = .returned v ∧ ∀ a, Slots a n (put E d v) → wpList P ops Q rest a w') : wpList P ops Q (⟨some d, .call ⟨.value (.func f), xs.toArray, ats⟩, ty, pos, af, none⟩ :: rest) a w := by
  refine wpList_plain rfl (fun K hK => ?_)
  unfold Oper.wp
  rw [run_call hf hS hx, Oper.upon_enter]
  refine hc.mono ?_
  intro e w' hR
  obtain ⟨v, rfl, h'⟩ := h e w' hR
  exact hK _ _ (h' _ (hS.put v hd))
theorem s_pure {f : FuncId} {xs : List Operand} {ats : Array TypeId} {vs : List Value} {d : Nat} {v : Value} (hS : Slots a n E) (hM : Mem w0 w L) (hd : d < n) (hx : evs E xs = some vs) (hc : Pure P f vs.toArray w v)
    (h : ∀ a w, Slots a n (put E d v) → Mem w0 w L → wpList P ops Q rest a w) : wpList P ops Q (⟨some d, .call ⟨.value (.func f), xs.toArray, ats⟩, ty, pos, af, none⟩ :: rest) a w :=
  s_call hc.ok hS hd hx hc.calls (by rintro e w' ⟨rfl, h'⟩; exact ⟨v, rfl, fun a hS => h a w' hS (hM.after h')⟩)
theorem s_pureg {f : FuncId} {xs : List Operand} {ats : Array TypeId} {vs : List Value} {d j dj : Nat} {b : Bool} {oj : Oper} {v : Value} (hS : Slots a n E) (hM : Mem w0 w L) (hd : d < n) (hx : evs E xs = some vs) (hj : ops[j]? = some oj) (hdj : oj.dst = some dj)
    (hb : E dj = some (.bool b)) (hc : Pure P f vs.toArray w v)
    (h : ∀ a w, Slots a n (put E d v) → Mem w0 w L → wpList P ops Q rest a w) : wpList P ops Q (⟨some d, .call ⟨.value (.func f), xs.toArray, ats⟩, ty, pos, af, some (j, b)⟩ :: rest) a w := by
  have hw : Region.wanted ⟨some d, .call ⟨.value (.func f), xs.toArray, ats⟩, ty, pos, af, some (j, b)⟩ (yielded ops a.tmps) = true := by
    have := hS.get _ _ hb
    simp [Region.wanted, yielded, hj, hdj, this]
  refine wpList_step (fun K hK => ?_)
  rw [if_pos hw]
  unfold Oper.wp
  rw [run_call hc.ok hS hx, Oper.upon_enter]
  refine hc.calls.mono ?_
  rintro e w' ⟨rfl, h'⟩
  exact hK _ _ (h _ w' (hS.put v hd) (hM.after h'))
end
section
variable {P : Program} {ops : List Oper} {n : Nat} {C : World → Prop} {es : List (Nat × Value)} {K : (Nat → Value) → Prop} {l rest : List Oper} {o : Oper} {i : Nat} {vals : Nat → Value} {v : Value} {a : Act} {w w0 : World} {E : Nat → Option Value}
theorem p_step (hl : l = o :: rest) (h : ∀ a w, Slots a n (predEnv ops o es vals) → C w → Yields P ops C o a w v) (hn : plan P ops n C es K rest (i + 1) (vput vals i v)) : plan P ops n C es K l i vals := by
  subst hl; exact ⟨v, h, hn⟩
theorem p_nil (hl : l = []) (h : K vals) : plan P ops n C es K l i vals := by subst hl; exact h
theorem y_val (hg : o.guard = none) (hr : Run P a o w v) : Yields P ops C o a w v := .inl ⟨by simp [Region.wanted, hg], .inl hr⟩
variable {dst : Option Nat} {ty : TypeId} {pos : String} {af : Array Edge}
theorem y_call {f : FuncId} {xs : List Operand} {ats : Array TypeId} {vs : List Value} (hf : callable P f = true) (hS : Slots a n E) (hx : evs E xs = some vs) (hc : Calls P f vs.toArray w fun e w' => e = .returned v ∧ C w') :
    Yields P ops C ⟨dst, .call ⟨.value (.func f), xs.toArray, ats⟩, ty, pos, af, none⟩ a w v :=
  .inl ⟨by simp [Region.wanted], .inr ⟨f, _, run_call hf hS hx, hc⟩⟩
theorem Pure.mem {f : FuncId} {args : Array Value} {L : List Blk} (h : Pure P f args w v) (hM : Mem w0 w L) : Calls P f args w fun e w' => e = .returned v ∧ Mem w0 w' L :=
  h.calls.mono fun _ _ ⟨he, h'⟩ => ⟨he, hM.after h'⟩
end
end Go.Sym
namespace Go.Sym
open Go Go.RowKit
section
variable {P : Program} {Q : Exit → Act → World → Prop} {a : Act} {w w0 w1 : World} {n : Nat} {E : Nat → Option Value} {L Lx : List Blk} {ops : Array Oper} {rest : List Oper}
variable {dst : Option Nat} {ty : TypeId} {pos : String} {af : Array Edge} {g : Option (Nat × Bool)}
def rb : Value → Nat
  | .slice (some x) _ _ => x.block
  | _ => 0
def ro : Value → Nat
  | .slice (some x) _ _ => x.off
  | _ => 0
def Rd (w : World) (v : Value) (m : Nat) (F : Nat → Value) : Prop :=
  ∃ ad cap, v = .slice ad m cap ∧ m ≤ cap ∧ (ad = none → cap = 0) ∧ ∀ x, ad = some x → ∀ i, i < m → x.spot = none ∧ w.cell? ⟨x.block, x.off + i, none⟩ = some (F i)
theorem Rd.at {v : Value} {m i : Nat} {F : Nat → Value} (h : Rd w v m F) (hm : i < m) : ∃ cap, v = .slice (some ⟨rb v, ro v, none⟩) m cap ∧ m ≤ cap := by
  obtain ⟨ad, cap, rfl, hle, hnone, hc⟩ := h
  cases ad with
  | none => have := hnone rfl; omega
  | some x =>
    obtain ⟨b, off, sp⟩ := x
    have := (hc _ rfl i hm).1
    simp only at this
    subst this
    exact ⟨cap, rfl, hle⟩
theorem Rd.get {v : Value} {m i : Nat} {F : Nat → Value} (h : Rd w v m F) (hm : i < m) : w.cell? ⟨rb v, ro v + i, none⟩ = some (F i) := by
  obtain ⟨ad, cap, rfl, hle, hnone, hc⟩ := h
  cases ad with
  | none => have := hnone rfl; omega
  | some x => exact (hc _ rfl i hm).2
theorem Rd.lt {v : Value} {m : Nat} {F : Nat → Value} (h : Rd w v m F) (hm : 0 < m) : rb v < w.heap.size := by
  have := h.get hm
  unfold World.cell? at this
  by_cases hlt : rb v < w.heap.size
  · exact hlt
  · have hn : w.heap[rb v]? = none := by simp; omega
    simp only [hn] at this
    cases this
theorem Rd.of_cells {v : Value} {m : Nat} {F : Nat → Value} {w' : World} (h : Rd w v m F) (hc : 0 < m → ∀ o, w'.cell? ⟨rb v, o, none⟩ = w.cell? ⟨rb v, o, none⟩) : Rd w' v m F := by
  obtain ⟨ad, cap, rfl, hle, hnone, hc'⟩ := h
  exact ⟨ad, cap, rfl, hle, hnone, fun x hx i hi => ⟨(hc' x hx i hi).1, by
    subst hx
    have h1 := hc (by omega) (x.off + i)
    simp only [rb] at h1
    rw [h1]
    exact (hc' x rfl i hi).2⟩⟩
theorem Rd.keep {v : Value} {m : Nat} {F : Nat → Value} (h : Rd w0 v m F) (hM : Mem w0 w L) (hne : 0 < m → ∀ e ∈ L, e.b ≠ rb v) : Rd w v m F :=
  h.of_cells fun hm o => hM.outer (a := ⟨rb v, o, none⟩) (h.lt hm) (hne hm)
theorem Rd.keepGe {v : Value} {m : Nat} {F : Nat → Value} (h : Rd w0 v m F) (hM : Mem w0 w L) (hge : allGe w0.heap.size L) : Rd w v m F :=
  h.keep hM fun hm e he => by have h1 := allGe_spec hge e he; have h2 := h.lt hm; omega
theorem Rd.nil (w : World) (F : Nat → Value) : Rd w (.slice none 0 0) 0 F := ⟨none, 0, rfl, Nat.le_refl _, fun _ => rfl, fun x hx => by cases hx⟩
theorem Rd.of_mem {b o t m cap j : Nat} {cs : List Value} {F : Nat → Value} (hM : Mem w0 w L) (hj : L[j]? = some ⟨b, t, cs⟩) (hle : m ≤ cap) (hF : ∀ i, i < m → cs[o + i]? = some (F i)) : Rd w (.slice (some ⟨b, o, none⟩) m cap) m F :=
  ⟨_, cap, rfl, hle, (fun h => by cases h), (fun x hx i hi => by
    cases hx
    exact ⟨rfl, by rw [hM.cell hj]; exact hF i hi⟩)⟩
def slc : Value → Nat → Nat → Value
  | .slice ad _ cap, l, h => .slice (if cap = l then ad else ad.map (·.add l)) (h - l) (cap - l)
  | v, _, _ => v
def Bnd (E : Nat → Option Value) : Option Operand → Nat → Nat → Prop
  | none, d, l => l = d
  | some x, _, l => ∃ k, ev E x = some (.int k (l : Int))
theorem run_bounds {isS : Bool} {len cap l h : Nat} {lo hi : Option Operand} (hS : Slots a n E) (hlo : Bnd E lo 0 l) (hhi : Bnd E hi len h) (hlh : l ≤ h) (hh : h ≤ cap) :
    (Instr.sliceBounds isS len cap (lo.map a.eval) (hi.map a.eval) none).run P w = .ok (l, h, cap) w := by
  have h1 : ((h : Int) ≤ (cap : Int)) := by omega
  have h2 : ((l : Int) ≤ (h : Int)) := by omega
  have h3 : ((0 : Int) ≤ (h : Int)) := by omega
  have h4 : ((0 : Int) ≤ (l : Int)) := by omega
  cases hi with
  | none =>
    simp only [Bnd] at hhi
    subst hhi
    cases lo with
    | none => simp only [Bnd] at hlo; subst hlo; simp [Instr.sliceBounds]
    | some x =>
      obtain ⟨k, hx⟩ := hlo
      simp [Instr.sliceBounds, Instr.sliceBound, asIntOf, hS.eval hx, hlh]
  | some y =>
    obtain ⟨k', hy⟩ := hhi
    cases lo with
    | none => simp only [Bnd] at hlo; subst hlo; simp [Instr.sliceBounds, Instr.sliceBound, asIntOf, hS.eval hy, hh]
    | some x =>
      obtain ⟨k, hx⟩ := hlo
      simp [Instr.sliceBounds, Instr.sliceBound, asIntOf, hS.eval hx, hS.eval hy, hh, hlh]
theorem r_sliceA {t el : TypeId} {x : Operand} {lo hi : Option Operand} {b off len l h : Nat} (hS : Slots a n E) (hx : ev E x = some (ptr b off)) (hT : P.underlying t = some (.array len el)) (hs : (P.info? el).map (·.size) = some 1)
    (hlo : Bnd E lo 0 l) (hhi : Bnd E hi len h) (hlh : l ≤ h) (hh : h ≤ len) : Run P a ⟨dst, .slice t x lo hi none, ty, pos, af, g⟩ w (slc (.slice (some ⟨b, off, none⟩) len len) l h) := by
  have hb := run_bounds (P := P) (w := w) (isS := false) (cap := len) hS hlo hhi hlh hh
  simp [Run, execOp, hS.eval hx, Instr.sliceAt, run_underlying hT, hb, run_sizeOf hs, slc, Instr.sureAddr, ptr]
  split <;> rfl
theorem slc_all {ad : Option Addr} {len : Nat} {b off : Nat} (h : ad = some ⟨b, off, none⟩) : slc (.slice ad len len) 0 len = .slice ad len len := by
  subst h
  unfold slc
  have hadd : (⟨b, off, none⟩ : Addr).add 0 = ⟨b, off, none⟩ := Addr.add_lit ..
  simp [hadd]
theorem r_sliceA0 {t el : TypeId} {x : Operand} {b off len : Nat} (hS : Slots a n E) (hx : ev E x = some (ptr b off)) (hT : P.underlying t = some (.array len el)) (hs : (P.info? el).map (·.size) = some 1) :
    Run P a ⟨dst, .slice t x none none none, ty, pos, af, g⟩ w (.slice (some ⟨b, off, none⟩) len len) := by
  have := r_sliceA (P := P) (w := w) (dst := dst) (ty := ty) (pos := pos) (af := af) (g := g) (lo := none) (hi := none) (l := 0) (h := len) hS hx hT hs rfl rfl (Nat.zero_le _) (Nat.le_refl _)
  rw [slc_all rfl] at this
  exact this
theorem r_lenR {x : Operand} {v : Value} {m : Nat} {F : Nat → Value} {w' : World} {t el : TypeId} (hS : Slots a n E) (hx : ev E x = some v) (hr : Rd w' v m F) (hT : P.underlying t = some (.slice el)) :
    Run P a ⟨dst, .call ⟨.builtin .len, #[x], #[t]⟩, ty, pos, af, g⟩ w (N m) := by
  obtain ⟨ad, cap, rfl, _, _, _⟩ := hr
  exact r_len hS hx hT
theorem r_indexR {t el : TypeId} {x y : Operand} {v : Value} {m i : Nat} {F : Nat → Value} {w' : World} {k : IntKind} (hS : Slots a n E) (hx : ev E x = some v) (hr : Rd w' v m F) (hy : ev E y = some (.int k (i : Int))) (hT : P.underlying t = some (.slice el))
    (hs : (P.info? el).map (·.size) = some 1) (hi : i < m) : Run P a ⟨dst, .indexAddr t x y, ty, pos, af, g⟩ w (ptr (rb v) (ro v + i)) := by
  obtain ⟨cap, hv, _⟩ := hr.at hi
  rw [hv] at hx
  exact r_indexS1 hS hx hy hT hs hi
theorem r_loadR {t : TypeId} {x : Operand} {v : Value} {m i : Nat} {F : Nat → Value} {d : TypeDesc} (hS : Slots a n E) (hx : ev E x = some (ptr (rb v) (ro v + i))) (hr : Rd w v m F) (hi : i < m)
    (hT : P.underlying t = some d) (hd : aggB d = false) : Run P a ⟨dst, .load t x, ty, pos, af, g⟩ w (F i) := by
  have := run_loadOne (P := P) (w := w) (a := ⟨rb v, ro v + i, none⟩) hT hd (hr.get hi)
  simp [Run, execOp, hS.eval hx, Instr.loadAt, Instr.sureAddr, ptr, this]
theorem Rd.src {v : Value} {m : Nat} {F : Nat → Value} {tx e' : TypeId} (hr : Rd w v m F) (hk : P.underlying tx = some (.slice e')) (h1 : ∀ i, i < m → (F i).oneCell' = true) : Src P 1 tx v m (cells m F) w := by
  obtain ⟨ad, cap, rfl, hle, hnone, hc⟩ := hr
  cases ad with
  | none =>
    have : cap = 0 := hnone rfl
    subst this
    have : m = 0 := by omega
    subst this
    exact Src.ofNil w hk 0
  | some x =>
    obtain ⟨b, off, sp⟩ := x
    refine Src.ofSlice w hk ⟨b, off, sp⟩ m cap (cells m F) (by rw [cells_len, Nat.mul_one]) (fun j u hu => ?_) (fun u hu => ?_)
    · have hj : j < m := by have := (List.getElem?_eq_some_iff.1 hu).1; rwa [cells_len] at this
      rw [cells_get hj] at hu
      cases hu
      have hs := (hc _ rfl j hj).1
      simp only at hs
      subst hs
      have hadd : (⟨b, off, none⟩ : Addr).add j = ⟨b, off + j, none⟩ := Addr.add_lit ..
      rw [hadd]
      exact (hc _ rfl j hj).2
    · obtain ⟨i, hi, rfl⟩ := List.mem_map.1 hu
      exact h1 i (List.mem_range.1 hi)
def Own (m0 : Nat) (e : TypeId) (v : Value) (xs : List Value) (Lx : List Blk) : Prop :=
  (v = .slice none 0 0 ∧ xs = [] ∧ Lx = []) ∨ ∃ b cap sp, v = .slice (some ⟨b, 0, none⟩) xs.length cap ∧ m0 ≤ b ∧ xs.length + sp.length = cap ∧ Lx = [⟨b, e, xs ++ sp⟩]
theorem Own.nil {m0 : Nat} {e : TypeId} : Own m0 e (.slice none 0 0) [] [] := .inl ⟨rfl, rfl, rfl⟩
theorem Own.ge {m0 : Nat} {e : TypeId} {v : Value} {xs : List Value} (h : Own m0 e v xs Lx) : ∀ x ∈ Lx, m0 ≤ x.b := by
  rcases h with ⟨_, _, rfl⟩ | ⟨b, cap, sp, _, hb, _, rfl⟩
  · intro x hx; cases hx
  · intro x hx; simp only [List.mem_singleton] at hx; subst hx; exact hb
theorem Own.rd {m0 : Nat} {e : TypeId} {v : Value} {xs : List Value} {F : Nat → Value} (h : Own m0 e v xs Lx) (hM : Mem w0 w (L ++ Lx)) (hF : ∀ i, i < xs.length → xs[i]? = some (F i)) : Rd w v xs.length F := by
  rcases h with ⟨rfl, rfl, rfl⟩ | ⟨b, cap, sp, rfl, hb, hc, rfl⟩
  · exact Rd.nil w F
  · have hj : (L ++ [⟨b, e, xs ++ sp⟩])[L.length]? = some ⟨b, e, xs ++ sp⟩ := by simp
    exact Rd.of_mem hM hj (by omega) (fun i hi => by rw [Nat.zero_add, List.getElem?_append_left hi]; exact hF i hi)
theorem Own.rdCells {m0 : Nat} {e : TypeId} {v : Value} {m : Nat} {F : Nat → Value} (h : Own m0 e v (cells m F) Lx) (hM : Mem w0 w (L ++ Lx)) : Rd w v m F := by
  have := h.rd hM (F := F) (fun i hi => cells_get (by rwa [cells_len] at hi))
  rwa [cells_len] at this
theorem Mem.dropRight {w0 w : World} {X : List Blk} : ∀ {L : List Blk}, Mem w0 w (L ++ X) → (∀ e ∈ X, w0.heap.size ≤ e.b) → Mem w0 w L := by
  intro L h hX
  refine ⟨h.os, h.tape, h.output, h.size, fun k hk hne => h.old k hk (fun e he => ?_), fun e he => h.have_ e (List.mem_append_left _ he), ?_⟩
  · rcases List.mem_append.1 he with he | he
    · exact hne e he
    · have := hX e he; omega
  · have := h.nodup
    rw [List.map_append, List.nodup_append] at this
    exact this.1
theorem Mem.drew {w0 w : World} {L : List Blk} (h : Mem w0 w L) : Mem w0 w.drew L := ⟨h.os, h.tape, h.output, h.size, h.old, h.have_, h.nodup⟩
theorem Mem.allocR {w0 w : World} {L : List Blk} (h : Mem w0 w L) (t : TypeId) (cs : List Value) : Mem w0 (w.alloc (.cells cs.toArray t (0, 0))) (L ++ [⟨w.heap.size, t, cs⟩]) := by
  have h1 := h.alloc t cs
  refine ⟨h1.os, h1.tape, h1.output, h1.size, fun k hk hne => h1.old k hk (fun e he => hne e (by simpa [or_comm] using he)), fun e he => h1.have_ e (by simpa [or_comm] using he), ?_⟩
  have := h1.nodup
  simp only [List.map_append, List.map_cons, List.map_nil, List.nodup_cons] at this ⊢
  rw [List.nodup_append]
  refine ⟨this.2, by simp, fun x hx y hy hxy => ?_⟩
  simp only [List.mem_singleton] at hy
  subst hy; subst hxy
  exact this.1 hx
theorem setAt_last {L : List Blk} {e : Blk} {cs : List Value} : setAt (L ++ [e]) L.length cs = L ++ [⟨e.b, e.t, cs⟩] := by
  induction L with
  | nil => rfl
  | cons x L ih => simp only [List.cons_append, List.length_cons, setAt, ih]
structure ElemOk (P : Program) (t e : TypeId) (z : Value) (bytes : Nat) : Prop where
  ht : P.underlying t = some (.slice e)
  hi : (P.info? e).map (fun i => (i.zero, i.size, i.bytes)) = some (some z, 1, bytes)
  hz : z.cells.size = 1
  hb : bytes ≤ 8
theorem own_append {t tx e : TypeId} {z v x : Value} {bytes m : Nat} {xs news : List Value} (he : ElemOk P t e z bytes) (hM : Mem w0 w (L ++ Lx)) (ho : Own w0.heap.size e v xs Lx) (hs : Src P 1 tx x m news w) (hn : xs.length + m ≤ 1099511627776) :
    ∃ v' w' Lx', (Builtin.append_ #[t, tx] ty #[v, x]).run P w = .ok v' w' ∧ Own w0.heap.size e v' (xs ++ news) Lx' ∧ Mem w0 w' (L ++ Lx') := by
  obtain ⟨i, hi⟩ : ∃ i, P.info? e = some i := by
    cases h : P.info? e with
    | none => have := he.hi; rw [h] at this; cases this
    | some i => exact ⟨i, rfl⟩
  have hh := he.hi
  rw [hi] at hh
  simp only [Option.map_some, Option.some.injEq, Prod.mk.injEq] at hh
  obtain ⟨hz, h1, hby⟩ := hh
  have hml : news.length = m := by rw [hs.newsLen, Nat.mul_one]
  have hb8 := he.hb
  have fits : ∀ old, old < xs.length + m → Builtin.nextslicecap (xs.length + m) old * i.bytes ≤ 281474976710656 := fun old hlt => growslice_fits hlt (by
    have : (xs.length + m) * i.bytes ≤ (xs.length + m) * 8 := Nat.mul_le_mul_left _ (by omega)
    omega)
  have hzc : ∀ k, (Builtin.zeroCells z.cells k).size = k := fun k => by rw [size_zeroCells, he.hz, Nat.mul_one]
  have grow : ∀ (base : Option Addr) (cap : Nat), v = .slice base xs.length cap → cap < xs.length + m → (Builtin.firstCells 1 xs.length (.slice base xs.length cap)).run P w.drew = .ok xs.toArray w.drew →
      ∃ v' w' Lx', (Builtin.append_ #[t, tx] ty #[v, x]).run P w = .ok v' w' ∧ Own w0.heap.size e v' (xs ++ news) Lx' ∧ Mem w0 w' (L ++ Lx') := by
    intro base cap hv hlt hold
    subst hv
    have hr := run_append_grow_src (P := P) w t tx ty e i z he.ht hi hz base xs.length cap xs (by rw [h1]; exact hold) x m news (by rw [h1]; exact hs) hlt (by omega) (fits cap hlt)
    have hge := grownCap_ge w (xs.length + m) cap e
    have hL : Mem w0 w.drew L := (hM.dropRight ho.ge).drew
    have hA := hL.allocR e ((xs ++ news) ++ (Builtin.zeroCells z.cells (grownCap w (xs.length + m) cap e - (xs.length + m))).toList)
    refine ⟨_, _, _, hr, .inr ⟨w.heap.size, grownCap w (xs.length + m) cap e, (Builtin.zeroCells z.cells (grownCap w (xs.length + m) cap e - (xs.length + m))).toList, ?_, hM.size, ?_, rfl⟩, ?_⟩
    · rw [List.length_append, hml]
    · have h4 : (Builtin.zeroCells z.cells (grownCap w (xs.length + m) cap e - (xs.length + m))).toList.length = grownCap w (xs.length + m) cap e - (xs.length + m) := Eq.trans Array.length_toList (hzc _)
      rw [List.length_append, hml, h4]; omega
    · have e1 : ((xs ++ news).toArray ++ Builtin.zeroCells z.cells (grownCap w (xs.length + m) cap e - (xs.length + m))) = ((xs ++ news) ++ (Builtin.zeroCells z.cells (grownCap w (xs.length + m) cap e - (xs.length + m))).toList).toArray := by
        apply Array.ext'
        simp
      rw [e1]
      exact hA
  rcases ho with ⟨rfl, rfl, rfl⟩ | ⟨b, cap, sp, rfl, hb, hc, rfl⟩
  · by_cases hm : m = 0
    · subst hm
      have hnews : news = [] := List.eq_nil_of_length_eq_zero hml
      subst hnews
      refine ⟨.slice none 0 0, w, [], ?_, .inl ⟨rfl, rfl, rfl⟩, hM⟩
      rcases hs.kind with ⟨e', hk⟩ | hk <;> simp [Builtin.append_, run_underlying he.ht, run_underlying hk, sizeOf, typeInfo, hi, hs.len, h1, hs.cells]
    · exact grow none 0 rfl (by simp; omega) (run_firstCells_none w.drew 1 0 0 0)
  · by_cases hroom : xs.length + m ≤ cap
    · have hj : (L ++ [⟨b, e, xs ++ sp⟩])[L.length]? = some ⟨b, e, xs ++ sp⟩ := by simp
      obtain ⟨w', hst, hM'⟩ := storeCells_run (P := P) news (xs ++ sp) xs.length 0 w hM hj hs.one (by rw [List.length_append, hml]; omega)
      have hsp : splice (xs ++ sp) (xs.length + 0) news = xs ++ news ++ sp.drop m := by
        have h2 : xs ++ sp = xs ++ sp.take m ++ sp.drop m := by rw [List.append_assoc, List.take_append_drop]
        rw [h2, Nat.add_zero]
        exact splice_spec news xs (sp.take m) (sp.drop m) (by rw [List.length_take, hml]; omega)
      rw [hsp, setAt_last] at hM'
      refine ⟨.slice (some ⟨b, 0, none⟩) (xs.length + m) cap, w', _, ?_, .inr ⟨b, cap, sp.drop m, by rw [List.length_append, hml], hb, by rw [List.length_append, hml, List.length_drop]; omega, rfl⟩, hM'⟩
      rcases hs.kind with ⟨e', hk⟩ | hk <;> simp [Builtin.append_, run_underlying he.ht, run_underlying hk, sizeOf, typeInfo, hi, hs.len, h1, hroom, hs.cells, Addr.add_lit, hst]
    · have hj : (L ++ [⟨b, e, xs ++ sp⟩])[L.length]? = some ⟨b, e, xs ++ sp⟩ := by simp
      refine grow _ cap rfl (by omega) (run_firstCells_some w.drew 1 xs.length _ _ _ xs (by rw [Nat.mul_one]) (fun j u hu => ?_))
      have hjl : j < xs.length := (List.getElem?_eq_some_iff.1 hu).1
      rw [Addr.add_lit, Nat.zero_add, hM.drew.cell hj, List.getElem?_append_left hjl]
      exact hu
theorem s_append {t tx e : TypeId} {z v u : Value} {bytes m d : Nat} {xs news : List Value} {x y : Operand} (hS : Slots a n E) (L : List Blk) (hM : Mem w0 w (L ++ Lx)) (hd : d < n) (hx : ev E x = some v) (hy : ev E y = some u) (he : ElemOk P t e z bytes)
    (ho : Own w0.heap.size e v xs Lx) (hs : Src P 1 tx u m news w) (hn : xs.length + m ≤ 1099511627776)
    (h : ∀ a w v Lx, Own w0.heap.size e v (xs ++ news) Lx → Slots a n (put E d v) → Mem w0 w (L ++ Lx) → wpList P ops Q rest a w) : wpList P ops Q (⟨some d, .call ⟨.builtin .append, #[x, y], #[t, tx]⟩, ty, pos, af, none⟩ :: rest) a w := by
  obtain ⟨v', w', Lx', hr, ho', hM'⟩ := own_append (P := P) (ty := ty) he hM ho hs hn
  exact s_op hS hd rfl rfl (by simp [execOp, resolve, invoke, builtin, hS.eval hx, hS.eval hy, hr]) (fun a hS => h a _ _ _ ho' hS hM')
def BuildsRow (P : Program) (t el : TypeId) (len : Nat) (parts : List (Nat × Value)) (cs : List Value) : Prop :=
  ∀ w, (Instr.buildSlice t len parts.toArray).run P w = .ok (.slice (some ⟨w.heap.size, 0, none⟩) len len) (w.alloc (.cells cs.toArray el (0, 0)))
theorem s_buildSlice {t el : TypeId} {d len : Nat} {xs : List (Nat × Operand)} {vs : List (Nat × Value)} {cs : List Value} (hS : Slots a n E) (hM : Mem w0 w L) (hd : d < n) (hx : evp E xs = some vs) (hb : BuildsRow P t el len vs cs)
    (h : ∀ a b w, w0.heap.size ≤ b → Slots a n (put E d (.slice (some ⟨b, 0, none⟩) len len)) → Mem w0 w (⟨b, el, cs⟩ :: L) → wpList P ops Q rest a w) : wpList P ops Q (⟨some d, .buildSlice t len xs.toArray, ty, pos, af, none⟩ :: rest) a w := by
  have h1 := Slots.evalp (xs := xs) hS hx
  have h' : Array.map (fun (p : Nat × Operand) => (p.1, a.eval p.2)) xs.toArray = vs.toArray := by rw [← h1]; simp
  exact s_op hS hd rfl rfl (by simp [execOp, h', hb w]) (fun a hS => h a _ _ hM.size hS (hM.alloc el cs))
theorem run_copy {t tx e : TypeId} {b o len cap j bt : Nat} {cs : List Value} {u : Value} {m : Nat} {F : Nat → Value} (ht : P.underlying t = some (.slice e)) (hs : (P.info? e).map (·.size) = some 1) (hM : Mem w0 w L) (hj : L[j]? = some ⟨b, bt, cs⟩)
    (hr : Rd w u m F) (h1 : ∀ i, i < m → (F i).oneCell' = true) (hle : o + min m len ≤ cs.length) :
    ∃ w', (Builtin.copy_ #[t, tx] ty #[.slice (some ⟨b, o, none⟩) len cap, u]).run P w = .ok (N (min m len)) w' ∧ Mem w0 w' (setAt L j (splice cs o (cells (min m len) F))) := by
  obtain ⟨w', hst, hM'⟩ := storeCells_run (P := P) (cells (min m len) F) cs o 0 w hM hj (fun v hv => by obtain ⟨i, hi, rfl⟩ := List.mem_map.1 hv; exact h1 i (by have := List.mem_range.1 hi; omega)) (by rw [cells_len]; omega)
  refine ⟨w', ?_, by simpa using hM'⟩
  obtain ⟨ad, ucap, rfl, hle', hnone, hc⟩ := hr
  have hf : (Builtin.firstCells 1 (min m len) (.slice ad m ucap)).run P w = .ok (cells (min m len) F).toArray w := by
    cases ad with
    | none =>
      have : m = 0 := by have := hnone rfl; omega
      subst this
      simp [Builtin.firstCells, cells]
    | some x =>
      obtain ⟨b', o', sp⟩ := x
      refine run_firstCells_some w 1 (min m len) _ m ucap (cells (min m len) F) (by rw [cells_len, Nat.mul_one]) (fun k v hv => ?_)
      have hk' : k < min m len := by have := (List.getElem?_eq_some_iff.1 hv).1; rwa [cells_len] at this
      rw [cells_get hk'] at hv
      cases hv
      have hsp := (hc _ rfl k (by omega)).1
      simp only at hsp
      subst hsp
      rw [Addr.add_lit]
      exact (hc _ rfl k (by omega)).2
  simp only [Nat.min_def] at hf hst
  simp [Builtin.copy_, run_underlying ht, run_sizeOf hs, Builtin.lenOf, Nat.min_def, hf, hst, goInt, N]
theorem s_copy {t tx e : TypeId} {d : Nat} {x y : Operand} {b o len cap j bt : Nat} {cs : List Value} {u : Value} {m : Nat} {F : Nat → Value} (hS : Slots a n E) (hM : Mem w0 w L) (hd : d < n) (hx : ev E x = some (.slice (some ⟨b, o, none⟩) len cap)) (hy : ev E y = some u)
    (ht : P.underlying t = some (.slice e)) (hs : (P.info? e).map (·.size) = some 1) (hj : L[j]? = some ⟨b, bt, cs⟩) (hr : Rd w u m F) (h1 : ∀ i, i < m → (F i).oneCell' = true) (hle : o + min m len ≤ cs.length)
    (h : ∀ a w, Slots a n (put E d (N (min m len))) → Mem w0 w (setAt L j (splice cs o (cells (min m len) F))) → wpList P ops Q rest a w) : wpList P ops Q (⟨some d, .call ⟨.builtin .copy, #[x, y], #[t, tx]⟩, ty, pos, af, none⟩ :: rest) a w := by
  obtain ⟨w', hc, hM'⟩ := run_copy (P := P) (ty := ty) (tx := tx) (cap := cap) ht hs hM hj hr h1 hle
  exact s_op hS hd rfl rfl (by simp [execOp, resolve, invoke, builtin, hS.eval hx, hS.eval hy, hc]) (fun a hS => h a _ hS hM')
theorem splice_cells {m k o : Nat} {F G : Nat → Value} (hle : o + k ≤ m) : splice (cells m F) o (cells k G) = cells m (fun i => if o ≤ i ∧ i < o + k then G (i - o) else F i) := by
  have h0 : cells m F = cells o F ++ cells k (fun i => F (o + i)) ++ cells (m - o - k) (fun i => F (o + k + i)) := by
    apply List.ext_getElem?
    intro i
    by_cases h1 : i < o
    · rw [cells_get (by omega), List.append_assoc, List.getElem?_append_left (by rw [cells_len]; exact h1), cells_get h1]
    · by_cases h2 : i < o + k
      · rw [cells_get (by omega), List.append_assoc, List.getElem?_append_right (by rw [cells_len]; omega), cells_len, List.getElem?_append_left (by rw [cells_len]; omega), cells_get (by omega)]
        simp only [show o + (i - o) = i by omega]
      · rw [List.append_assoc, List.getElem?_append_right (by rw [cells_len]; omega), cells_len, List.getElem?_append_right (by rw [cells_len]; omega), cells_len]
        by_cases h3 : i < m
        · rw [cells_get h3, cells_get (by omega)]
          simp only [show o + k + (i - o - k) = i by omega]
        · rw [List.getElem?_eq_none (by rw [cells_len]; omega), List.getElem?_eq_none (by rw [cells_len]; omega)]
  have h4 := splice_spec (cells k G) (cells o F) (cells k (fun i => F (o + i))) (cells (m - o - k) (fun i => F (o + k + i))) (by simp [cells_len])
  rw [cells_len, ← h0] at h4
  rw [h4]
  apply List.ext_getElem?
  intro i
  by_cases h1 : i < o
  · rw [cells_get (by omega), List.append_assoc, List.getElem?_append_left (by rw [cells_len]; exact h1), cells_get h1]
    simp only [show ¬ (o ≤ i ∧ i < o + k) by omega, if_false]
  · by_cases h2 : i < o + k
    · rw [cells_get (by omega), List.append_assoc, List.getElem?_append_right (by rw [cells_len]; omega), cells_len, List.getElem?_append_left (by rw [cells_len]; omega), cells_get (by omega)]
      simp only [show (o ≤ i ∧ i < o + k) by omega]; simp
    · rw [List.append_assoc, List.getElem?_append_right (by rw [cells_len]; omega), cells_len, List.getElem?_append_right (by rw [cells_len]; omega), cells_len]
      by_cases h3 : i < m
      · rw [cells_get h3, cells_get (by omega)]
        simp only [show ¬ (o ≤ i ∧ i < o + k) by omega, if_false, show o + k + (i - o - k) = i by omega]
      · rw [List.getElem?_eq_none (by rw [cells_len]; omega), List.getElem?_eq_none (by rw [cells_len]; omega)]
theorem Own.mono {m0 m1 : Nat} {e : TypeId} {v : Value} {xs : List Value} (h : Own m0 e v xs Lx) (hm : m1 ≤ m0) : Own m1 e v xs Lx := by
  rcases h with h | ⟨b, cap, sp, h1, h2, h3, h4⟩
  · exact .inl h
  · exact .inr ⟨b, cap, sp, h1, by omega, h3, h4⟩
theorem Own.congr {m0 : Nat} {e : TypeId} {v : Value} {xs ys : List Value} (h : Own m0 e v xs Lx) (he : xs = ys) : Own m0 e v ys Lx := he ▸ h
theorem Own.some {m0 : Nat} {e : TypeId} {v : Value} {xs : List Value} (h : Own m0 e v xs Lx) (hx : 0 < xs.length) : ∃ b cap sp, v = .slice (some ⟨b, 0, none⟩) xs.length cap ∧ m0 ≤ b ∧ xs.length + sp.length = cap ∧ Lx = [⟨b, e, xs ++ sp⟩] := by
  rcases h with ⟨_, rfl, _⟩ | h
  · simp at hx
  · exact h
theorem Mem.swap {w0 w : World} {X Y : List Blk} (h : Mem w0 w (X ++ Y)) : Mem w0 w (Y ++ X) where
  os := h.os
  tape := h.tape
  output := h.output
  size := h.size
  old := fun k hk hne => h.old k hk (fun e he => hne e (by simpa [or_comm] using he))
  have_ := fun e he => h.have_ e (by simpa [or_comm] using he)
  nodup := ((List.perm_append_comm (l₁ := X) (l₂ := Y)).map (fun x : Blk => x.b)).nodup_iff.1 h.nodup
theorem Own.rdFront {m0 : Nat} {e : TypeId} {v : Value} {m : Nat} {F : Nat → Value} (h : Own m0 e v (cells m F) Lx) (hM : Mem w0 w (Lx ++ L)) : Rd w v m F := h.rdCells hM.swap
theorem cells_snoc {m : Nat} {F : Nat → Value} : cells m F ++ [F m] = cells (m + 1) F := by unfold cells; rw [List.range_succ, List.map_append]; rfl
theorem cells_append {m k : Nat} {F G : Nat → Value} : cells m F ++ cells k G = cells (m + k) (fun i => if i < m then F i else G (i - m)) := by
  apply List.ext_getElem?
  intro i
  by_cases h1 : i < m
  · rw [List.getElem?_append_left (by rw [cells_len]; exact h1), cells_get h1, cells_get (by omega), if_pos h1]
  · rw [List.getElem?_append_right (by rw [cells_len]; omega), cells_len]
    by_cases h2 : i < m + k
    · rw [cells_get (by omega), cells_get h2, if_neg h1]
    · rw [List.getElem?_eq_none (by rw [cells_len]; omega), List.getElem?_eq_none (by rw [cells_len]; omega)]
structure Fresh (P : Program) (f : FuncId) (args : Array Value) (w : World) (el : TypeId) (xs : List Value) : Prop where
  ok : callable P f = true
  calls : Calls P f args w fun e w' => ∃ v Lx, e = .returned v ∧ Own w.heap.size el v xs Lx ∧ Mem w w' Lx
theorem Mem.growX {w0 w w' : World} {L B : List Blk} (h : Mem w0 w L) (g : Mem w w' B) (hn : ∀ e ∈ B, w.heap.size ≤ e.b) : Mem w0 w' (B ++ L) where
  os := g.os.trans h.os
  tape := g.tape.trans h.tape
  output := g.output.trans h.output
  size := Nat.le_trans h.size g.size
  old := by
    intro k hk hne
    rw [g.old k (Nat.lt_of_lt_of_le hk h.size) (fun e he => by have h1 := hn e he; have h2 := h.size; omega)]
    exact h.old k hk (fun e he => hne e (List.mem_append_right _ he))
  have_ := by
    intro e he
    rcases List.mem_append.1 he with he | he
    · exact g.have_ e he
    · rw [g.old e.b (h.lt he) (fun f hf => by have h1 := hn f hf; have h2 := h.lt he; omega)]
      exact h.have_ e he
  nodup := by
    rw [List.map_append, List.nodup_append]
    refine ⟨g.nodup, h.nodup, ?_⟩
    intro x hx y hy hxy
    obtain ⟨e, he, rfl⟩ := List.mem_map.1 hx
    obtain ⟨f, hf, rfl⟩ := List.mem_map.1 hy
    have h1 := hn e he
    have h2 := h.lt hf
    omega
theorem s_fresh {f : FuncId} {xs : List Operand} {ats : Array TypeId} {vs : List Value} {d : Nat} {el : TypeId} {cs : List Value} (hS : Slots a n E) (hM : Mem w0 w L) (hd : d < n) (hx : evs E xs = some vs) (hc : Fresh P f vs.toArray w el cs)
    (h : ∀ a w v Lx, Own w0.heap.size el v cs Lx → Slots a n (put E d v) → Mem w0 w (Lx ++ L) → wpList P ops Q rest a w) : wpList P ops Q (⟨some d, .call ⟨.value (.func f), xs.toArray, ats⟩, ty, pos, af, none⟩ :: rest) a w :=
  s_call hc.ok hS hd hx hc.calls (by
    rintro e w' ⟨v, Lx, rfl, ho, hm⟩
    exact ⟨v, rfl, fun a hS => h a w' v Lx (ho.mono hM.size) hS (hM.growX hm ho.ge)⟩)
theorem Mem.forget {w0 w : World} {X L : List Blk} (h : Mem w0 w (X ++ L)) (hb : ∀ e ∈ X, w0.heap.size ≤ e.b) : Mem w0 w L := h.swap.dropRight hb
theorem rd_row {b t m j : Nat} {F : Nat → Value} (hM : Mem w0 w L) (hj : L[j]? = some ⟨b, t, cells m F⟩) : Rd w (.slice (some ⟨b, 0, none⟩) m m) m F :=
  Rd.of_mem hM hj (Nat.le_refl _) (fun i hi => by rw [Nat.zero_add]; exact cells_get hi)
theorem row1 {b t : Nat} {x : Value} (hM : Mem w0 w (⟨b, t, [x]⟩ :: L)) : Rd w (.slice (some ⟨b, 0, none⟩) 1 1) 1 (fun _ => x) :=
  Rd.of_mem (j := 0) hM rfl (Nat.le_refl _) (fun i hi => by have : i = 0 := by omega
                                                            subst this; rfl)
theorem s_valb {o : Oper} {d : Nat} {b : Bool} (hS : Slots a n E) (hd : d < n) (ho : o.dst = some d) (hg : o.guard = none) (hr : Run P a o w (.bool b))
    (ht : b = true → ∀ a, Slots a n (put E d (.bool true)) → wpList P ops Q rest a w) (hf : b = false → ∀ a, Slots a n (put E d (.bool false)) → wpList P ops Q rest a w) : wpList P ops Q (o :: rest) a w := by
  refine s_val hS hd ho hg hr ?_
  cases b
  · exact hf rfl
  · exact ht rfl
theorem s_valgb {o : Oper} {d j dj : Nat} {b c : Bool} {oj : Oper} (hS : Slots a n E) (hd : d < n) (ho : o.dst = some d) (hg : o.guard = some (j, c)) (hj : ops[j]? = some oj) (hdj : oj.dst = some dj) (hb : E dj = some (.bool c)) (hr : Run P a o w (.bool b))
    (ht : b = true → ∀ a, Slots a n (put E d (.bool true)) → wpList P ops Q rest a w) (hf : b = false → ∀ a, Slots a n (put E d (.bool false)) → wpList P ops Q rest a w) : wpList P ops Q (o :: rest) a w := by
  refine s_valg hS hd ho hg hj hdj hb hr ?_
  cases b
  · exact hf rfl
  · exact ht rfl
end
end Go.Sym
namespace Go.Sym
open Go Go.RowKit Go.ChangeShapes Go.WideShapes Go.ChangeAt
section
variable {H : Type} {enc : TypeId × Value → H} {P : Program} {W : World} {base : Nat} {sp : Nat → Bool} {held : Bool}
theorem Pure.below {f : FuncId} {args : Array Value} {w : World} {v : Value} (h : Pure P f args w v) : Calls P f args w fun e w' => e = .returned v ∧ Below w.heap.size w w' :=
  h.calls.mono fun _ _ ⟨he, hm⟩ => ⟨he, hm.below⟩
end
end Go.Sym
