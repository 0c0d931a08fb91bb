/-
  The walk's laws, one for each operation and each form of code: each is applied by name. No program is in sight here.
-/
import Derived.Test.YtbfiaoemoookcaaDoorSym
namespace Go.Sym
open Go Go.RowKit

section
variable {P : Program} {Q : Exit → Act → World → Prop} {a : Act} {w w0 : World} {n : Nat} {E : Nat → Option Value} {L : List Blk} {ops : Array Oper} {rest : List Oper}

/-! ### Code -/

theorem k_then {K : Act → World → Prop} (h : K a w) : Exit.then K Q .normal a w := h
theorem k_thenx {K : Act → World → Prop} {id : Nat} (h : Q (.exit id) a w) : Exit.then K Q (.exit id) a w := h
theorem k_thenr {K : Act → World → Prop} (h : Q .ret a w) : Exit.then K Q .ret a w := h
theorem k_in {id : Nat} (h : Q .normal a w) : Exit.inBlock id Q .normal a w := h
theorem k_inx {id : Nat} (h : Q .normal a w) : Exit.inBlock id Q (.exit id) a w := by simp only [Exit.inBlock, if_true]; exact h
theorem k_iny {id id' : Nat} (hne : (id' == id) = false) (h : Q (.exit id') a w) : Exit.inBlock id Q (.exit id') a w := by
  have : id' ≠ id := by simpa using hne
  simp only [Exit.inBlock, if_neg this]; exact h
theorem k_inr {id : Nat} (h : Q .ret a w) : Exit.inBlock id Q .ret a w := h

theorem k_seq {y : Code} {Q' : Exit → Act → World → Prop} (h : y.wp P Q' a w) : Exit.then (y.wp P Q') Q .normal a w := h
theorem c_seq {x y : Code} (h : x.wp P (Exit.then (y.wp P Q) Q) a w) : (Code.seq x y).wp P Q a w := wp_seq h
theorem c_block {id : Nat} {c : Code} (h : c.wp P (Exit.inBlock id Q) a w) : (Code.block id c).wp P Q a w := wp_block h
theorem c_skip (h : Q .normal a w) : Code.skip.wp P Q a w := wp_skip h
theorem c_ret (h : Q .ret a w) : Code.ret.wp P Q a w := wp_ret h
theorem c_exit {id : Nat} (h : Q (.exit id) a w) : (Code.exit id).wp P Q a w := wp_exit h
theorem c_region {id : Nat} {l : List Oper} (h : wpList P l.toArray Q l a w) : (Code.region id l.toArray false).wp P Q a w := wp_region_lit h
theorem c_cond {c : Operand} {x y : Code} {t : Bool} (hS : Slots a n E) (hc : ev E c = some (.bool t)) (ht : t = true → x.wp P Q a w) (hf : t = false → y.wp P Q a w) : (Code.cond c x y).wp P Q a w :=
  wp_cond_split (hS.eval hc) ht hf
theorem c_true {c : Operand} {x y : Code} {t : Bool} (hS : Slots a n E) (hc : ev E c = some (.bool t)) (ht : t = true) (h : x.wp P Q a w) : (Code.cond c x y).wp P Q a w :=
  wp_cond_true (by rw [hS.eval hc, ht]) h
theorem c_false {c : Operand} {x y : Code} {t : Bool} (hS : Slots a n E) (hc : ev E c = some (.bool t)) (ht : t = false) (h : y.wp P Q a w) : (Code.cond c x y).wp P Q a w :=
  wp_cond_false (by rw [hS.eval hc, ht]) h

/-- A loop: the ghost s, lowered by every round. -/
theorem c_loop {σ : Type} (J : σ → Act → World → Prop) (m : σ → Nat) (s0 : σ) {c : Code} (h0 : J s0 a w)
    (round : ∀ s a w, J s a w → c.wp P (Exit.then (fun a' w' => ∃ s', m s' < m s ∧ J s' a' w') Q) a w) : (Code.loop c).wp P Q a w := by
  refine wp_loop_ghost (fun n a w => ∃ s, m s = n ∧ J s a w) (m s0) ⟨s0, rfl, h0⟩ ?_
  rintro n a w ⟨s, rfl, hJ⟩
  refine wp_mono (round s a w hJ) ?_
  intro e a' w' hq
  cases e with
  | normal => obtain ⟨s', h1, h2⟩ := hq; exact ⟨m s', h1, s', rfl, h2⟩
  | exit id => exact hq
  | goto l => exact hq
  | ret => exact hq
  | panic ch => exact hq
  | outgrown => exact hq

/-- Where ways meet again. -/
theorem c_cut {x y : Code} (J : Act → World → Prop) (h1 : x.wp P (Exit.then J Q) a w) (h2 : ∀ a w, J a w → y.wp P Q a w) : (Code.seq x y).wp P Q a w :=
  wp_seq (wp_mono h1 (by
    intro e a' w' hq
    cases e with
    | normal => exact h2 _ _ hq
    | exit id => exact hq
    | goto l => exact hq
    | ret => exact hq
    | panic ch => exact hq
    | outgrown => exact hq))

theorem calls_sym {f : FuncId} {fn : Func} {c : Code} {args : Array Value} {R : Ending → World → Prop} (hf : P.funcs[f]? = some fn) (hb : fn.body = some c) (hn' : Nat.ble args.size fn.ntmps = true)
    (h : ∀ a, Slots a fn.ntmps (initE args) → c.wp P (bodyPost P fn R) a w) : Calls P f args w R := by
  have hn : args.size ≤ fn.ntmps := Nat.le_of_ble_eq_true hn'
  refine calls_of_wp hf hb (h _ ⟨rfl, by simp; omega, ?_⟩)
  intro i v hi
  unfold initE at hi
  have hlt : i < args.size := (Array.getElem?_eq_some_iff.1 hi).1
  simp only [Array.getElem?_append, hlt, if_true]
  exact hi

/-! ### What a call hands back -/

/-- A type whose values are rows of cells. -/
def aggB : TypeDesc → Bool
  | .struct _ | .array _ _ => true
  | _ => false

theorem run_isAgg {t : TypeId} {d : TypeDesc} (hu : P.underlying t = some d) (w : World) : (isAgg t).run P w = .ok (aggB d) w := by
  unfold isAgg
  rw [Sem.run_bind, run_underlying hu w]
  cases d <;> rfl

theorem run_sizeOf {t : TypeId} {s : Nat} (hi : (P.info? t).map (·.size) = some s) (w : World) : (sizeOf t).run P w = .ok s w := by
  cases hq : P.info? t with
  | none => simp [hq] at hi
  | some i =>
    have hs : i.size = s := by simpa [hq] using hi
    simp [sizeOf, typeInfo, hq, hs]

/-- A row of cells is read. -/
theorem run_loadRow {t : TypeId} {d : TypeDesc} {b off : Nat} {cs : List Value} (hu : P.underlying t = some d) (hd : aggB d = true) (hi : (P.info? t).map (·.size) = some cs.length)
    (hc : ∀ j v, cs[j]? = some v → w.cell? ⟨b, off + j, none⟩ = some v) : (loadVar t ⟨b, off, none⟩).run P w = .ok (.agg cs.toArray) w := by
  have hl : (loadCells ⟨b, off, none⟩ cs.length).run P w = .ok cs.toArray w :=
    run_loadCells_list (P := P) w ⟨b, off, none⟩ cs (fun j v hv => by
      have hadd : (⟨b, off, none⟩ : Addr).add j = ⟨b, off + j, none⟩ := Addr.add_lit ..
      rw [hadd]
      exact hc j v hv)
  simp [loadVar, run_isAgg hu w, hd, run_sizeOf hi w, hl]

theorem run_loadOne {t : TypeId} {d : TypeDesc} {a : Addr} {v : Value} (hu : P.underlying t = some d) (hd : aggB d = false) (hc : w.cell? a = some v) : (loadVar t a).run P w = .ok v w := by
  simp [loadVar, run_isAgg hu w, hd, hc]

theorem row_cell {b : Nat} {t : TypeId} {cs : List Value} (h : w.heap[b]? = some (.cells cs.toArray t (0, 0))) (j : Nat) : w.cell? ⟨b, j, none⟩ = cs[j]? := by
  simp [World.cell?, h]

/-- The value of a result variable. -/
inductive RV (P : Program) (w : World) (E : Nat → Option Value) : ResultVar → Value → Prop where
  | tmp {t : Nat} {v : Value} : E t = some v → RV P w E (.tmp t) v
  | row {p : Nat} {ty : TypeId} {b : Nat} {t : TypeId} {cs : List Value} {d : TypeDesc} : E p = some (ptr b 0) → w.heap[b]? = some (.cells cs.toArray t (0, 0)) → P.underlying ty = some d →
      aggB d = true → (P.info? ty).map (·.size) = some cs.length → RV P w E (.cell p ty) (.agg cs.toArray)
  | one {p : Nat} {ty : TypeId} {b : Nat} {t : TypeId} {v : Value} {d : TypeDesc} : E p = some (ptr b 0) → w.heap[b]? = some (.cells [v].toArray t (0, 0)) → P.underlying ty = some d →
      aggB d = false → RV P w E (.cell p ty) v

theorem RV.run {rv : ResultVar} {v : Value} (hS : Slots a n E) (h : RV P w E rv v) :
    (∃ t, rv = .tmp t ∧ a.tmps[t]?.getD undef = v) ∨ (∃ p ty ad, rv = .cell p ty ∧ a.tmps[p]?.getD undef = .pointer (some ad) ∧ (loadVar ty ad).run P w = .ok v w) := by
  cases h with
  | tmp h => exact .inl ⟨_, rfl, by rw [hS.get _ _ h]; rfl⟩
  | row hp hc hu hd hi => exact .inr ⟨_, _, _, rfl, by rw [hS.get _ _ hp]; rfl, run_loadRow hu hd hi (fun j v hv => by rw [Nat.zero_add, row_cell hc]; exact hv)⟩
  | one hp hc hu hd => exact .inr ⟨_, _, _, rfl, by rw [hS.get _ _ hp]; rfl, run_loadOne hu hd (by rw [row_cell hc]; rfl)⟩

theorem k_res1 {fn : Func} {R : Ending → World → Prop} {rv : ResultVar} {v : Value} (hS : Slots a n E) (hr : fn.results = #[rv]) (h : RV P w E rv v) (hR : R (.returned v) w) : bodyPost P fn R .ret a w := by
  refine ⟨hS.defers, v, ?_, hR⟩
  unfold results
  rw [hr]
  rcases h.run hS with ⟨t, rfl, ht⟩ | ⟨p, ty, ad, rfl, hp, hl⟩
  · simp [ht]
  · simp [hp, asAddr, hl]

theorem k_res2 {fn : Func} {R : Ending → World → Prop} {rv rv' : ResultVar} {v v' : Value} (hS : Slots a n E) (hr : fn.results = #[rv, rv']) (h : RV P w E rv v) (h' : RV P w E rv' v')
    (hR : R (.returned (.tuple #[v, v'])) w) : bodyPost P fn R .ret a w := by
  refine ⟨hS.defers, .tuple #[v, v'], ?_, hR⟩
  unfold results
  rw [hr]
  rcases h.run hS with ⟨t, rfl, ht⟩ | ⟨p, ty, ad, rfl, hp, hl⟩ <;> rcases h'.run hS with ⟨t', rfl, ht'⟩ | ⟨p', ty', ad', rfl, hp', hl'⟩
  · simp [ht, ht']
  · simp [ht, hp', asAddr, hl']
  · simp [hp, asAddr, hl, ht']
  · simp [hp, asAddr, hl, hp', hl']

theorem k_res0 {fn : Func} {R : Ending → World → Prop} (hS : Slots a n E) (hr : fn.results = #[]) (hR : R (.returned (.tuple #[])) w) : bodyPost P fn R .ret a w := by
  refine ⟨hS.defers, .tuple #[], ?_, hR⟩
  unfold results
  rw [hr]
  simp
theorem k_res0n {fn : Func} {R : Ending → World → Prop} (hS : Slots a n E) (hr : fn.results = #[]) (hR : R (.returned (.tuple #[])) w) : bodyPost P fn R .normal a w := k_res0 (P := P) hS hr hR

/-! ### Operations -/

/-- The operation reads, and yields v. -/
def Run (P : Program) (a : Act) (o : Oper) (w : World) (v : Value) : Prop := (execOp a.eval o).run P w = .ok (.value v) w

theorem s_val {o : Oper} {d : Nat} {v : Value} (hS : Slots a n E) (hd : d < n) (ho : o.dst = some d) (hg : o.guard = none) (hr : Run P a o w v)
    (h : ∀ a, Slots a n (put E d v) → wpList P ops Q rest a w) : wpList P ops Q (o :: rest) a w := by
  refine wpList_plain hg (fun K hK => ?_)
  unfold Oper.wp
  rw [hr, Oper.upon_value, ho]
  exact hK _ _ (h _ (hS.put v hd))

theorem s_nil (h : Q .normal a w) : wpList P ops Q [] a w := h

/-- A guarded operation that is carried out. -/
theorem s_valg {o : Oper} {d j dj : Nat} {b : Bool} {oj : Oper} {v : Value} (hS : Slots a n E) (hd : d < n) (ho : o.dst = some d) (hg : o.guard = some (j, b)) (hj : ops[j]? = some oj) (hdj : oj.dst = some dj)
    (hb : E dj = some (.bool b)) (hr : Run P a o w v)
    (h : ∀ a, Slots a n (put E d v) → wpList P ops Q rest a w) : wpList P ops Q (o :: rest) a w := by
  have hw : Region.wanted o (yielded ops a.tmps) = true := by
    have := hS.get _ _ hb
    simp [Region.wanted, hg, yielded, hj, hdj, this]
  refine wpList_step (fun K hK => ?_)
  rw [if_pos hw]
  unfold Oper.wp
  rw [hr, Oper.upon_value, ho]
  exact hK _ _ (h _ (hS.put v hd))

/-- A guarded operation that is passed over. -/
theorem s_skip {o : Oper} {d j dj : Nat} {b : Bool} {oj : Oper} (hS : Slots a n E) (hd : d < n) (ho : o.dst = some d) (hg : o.guard = some (j, b)) (hj : ops[j]? = some oj) (hdj : oj.dst = some dj)
    (hb : E dj = some (.bool !b)) (h : ∀ a, Slots a n (put E d undef) → wpList P ops Q rest a w) : wpList P ops Q (o :: rest) a w := by
  have hw : Region.wanted o (yielded ops a.tmps) = false := by
    have := hS.get _ _ hb
    simp [Region.wanted, hg, yielded, hj, hdj, this]
  refine wpList_skip hw ?_
  rw [ho]
  exact h _ (hS.put undef hd)

variable {dst : Option Nat} {ty : TypeId} {pos : String} {af : Array Edge} {g : Option (Nat × Bool)}

theorem r_move {x : Operand} {v : Value} (hS : Slots a n E) (hx : ev E x = some v) : Run P a ⟨dst, .move x, ty, pos, af, g⟩ w v := by
  simp [Run, execOp, hS.eval hx]
theorem r_assign {x : Operand} {v : Value} (hS : Slots a n E) (hx : ev E x = some v) : Run P a ⟨dst, .assign x, ty, pos, af, g⟩ w v := by
  simp [Run, execOp, hS.eval hx]
theorem r_pick {c x y : Operand} {b : Bool} {v : Value} (hS : Slots a n E) (hc : ev E c = some (.bool b)) (hx : ev E (if b then x else y) = some v) : Run P a ⟨dst, .pick c x y, ty, pos, af, g⟩ w v := by
  cases b
  · simp only [Bool.false_eq_true, if_false] at hx
    simp [Run, execOp, hS.eval hc, hS.eval hx, asBool]
  · simp only [if_true] at hx
    simp [Run, execOp, hS.eval hc, hS.eval hx, asBool]
theorem r_not {t : TypeId} {x : Operand} {b : Bool} (hS : Slots a n E) (hx : ev E x = some (.bool b)) : Run P a ⟨dst, .unOp .not t x, ty, pos, af, g⟩ w (.bool !b) := by
  simp [Run, execOp, hS.eval hx, Op.unary]
theorem r_extract {x : Operand} {vs : Array Value} {i : Nat} {v : Value} (hS : Slots a n E) (hx : ev E x = some (.tuple vs)) (hv : vs[i]? = some v) : Run P a ⟨dst, .extract x i, ty, pos, af, g⟩ w v := by
  simp [Run, execOp, hS.eval hx, Instr.extract, hv]

/-- an operation of two numbers, by what the model says of the numbers -/
theorem r_bin {op : BinOp} {t t' : TypeId} {x y : Operand} {k k' : IntKind} {m m' : Int} {v : Value} (hS : Slots a n E) (hx : ev E x = some (.int k m)) (hy : ev E y = some (.int k' m'))
    (h : binOp op t (.int k m) (.int k' m') = pure v) : Run P a ⟨dst, .binOp op t x y t', ty, pos, af, g⟩ w v := by
  have hg : eqGuard op t x y (.int k m) (.int k' m') = pure () := eqGuard_at_int ..
  simp [Run, execOp, hS.eval hx, hS.eval hy, hg, h]

end
end Go.Sym
