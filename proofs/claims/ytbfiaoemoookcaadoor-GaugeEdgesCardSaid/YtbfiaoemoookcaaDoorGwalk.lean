/-
  The walk's laws on floats beside the comparisons: signs, conversions, arithmetic that is guarded, calls that tell. No program is in sight here.
-/
import Derived.Test.YtbfiaoemoookcaaDoorGhalf
namespace Go.Sym
open Go Go.RowKit

section
variable {P : Program} {Q : Exit → Act → World → Prop} {a : Act} {w w0 : World} {n : Nat} {E : Nat → Option Value} {L Lx : List Blk} {ops : Array Oper} {rest : List Oper}
variable {dst : Option Nat} {ty : TypeId} {pos : String} {af : Array Edge} {g : Option (Nat × Bool)}
theorem r_negF {t : TypeId} {x : Operand} {u : BitVec 64} (hS : Slots a n E) (hx : ev E x = some (F u)) : Run P a ⟨dst, .unOp .neg t x, ty, pos, af, g⟩ w (F (u ^^^ 9223372036854775808#64)) := by
  have h : Op.unary .neg (F u) = pure (F (u ^^^ 9223372036854775808#64)) := by
    show (pure (Value.float .f64 (u.toNat ^^^ 2 ^ (11 + 52))) : Sem Value) = _
    unfold F
    rw [BitVec.toNat_xor]; rfl
  simp [Run, execOp, hS.eval hx, h]
theorem r_convIF {s d : TypeId} {x : Operand} {k : IntKind} {m : Int} (hS : Slots a n E) (hx : ev E x = some (.int k m)) (hs : (P.underlying s).isSome = true) (hd : P.underlying d = some (.float .f64)) : Run P a ⟨dst, .convert s d x, ty, pos, af, g⟩ w (F (fi m)) := by
  have := run_convert_int_float (P := P) w s d k .f64 m hs hd
  have e : F (fi m) = .float .f64 (floatOfInt .f64 m) := by unfold F; rw [fi_nat]
  rw [e]
  simp [Run, execOp, hS.eval hx, this]
theorem r_convFI {s d : TypeId} {x : Operand} {k : IntKind} {y : BitVec 64} {m : Int} (hS : Slots a n E) (hx : ev E x = some (F y)) (hs : (P.underlying s).isSome = true) (hd : P.underlying d = some (.int k)) (h : floatToIntVal .f64 y.toNat k = some m) : Run P a ⟨dst, .convert s d x, ty, pos, af, g⟩ w (.int k m) := by
  have := run_convert_float_int (P := P) w s d .f64 k y.toNat m hs hd h
  simp only [Run, execOp, hS.eval hx, F]
  simp [this]
theorem s_floatg {op : BinOp} {t t' : TypeId} {d j dj : Nat} {b : Bool} {oj : Oper} {x y : Operand} {p q : BitVec 64} (hS : Slots a n E) (hM : Mem w0 w L) (hd : d < n) (hx : ev E x = some (F p)) (hy : ev E y = some (F q)) (hj : ops[j]? = some oj) (hdj : oj.dst = some dj)
    (hb : E dj = some (.bool b)) (hop : op = .add ∨ op = .sub ∨ op = .mul ∨ op = .quo)
    (h : ∀ a w r, FR op p q r → Slots a n (put E d (F r)) → Mem w0 w L → wpList P ops Q rest a w) : wpList P ops Q (⟨some d, .binOp op t x y t', ty, pos, af, some (j, b)⟩ :: rest) a w := by
  obtain ⟨r, w', hr, hf, hw⟩ := floatArith_run (P := P) (w := w) (t := t) (x := p) (y := q) hop
  have hwt : Region.wanted ⟨some d, .binOp op t x y t', ty, pos, af, some (j, b)⟩ (yielded ops a.tmps) = true := by
    have := hS.get _ _ hb
    simp [Region.wanted, yielded, hj, hdj, this]
  have hrun : (execOp a.eval ⟨some d, .binOp op t x y t', ty, pos, af, some (j, b)⟩).run P w = .ok (.value (F r)) w' := by
    simp only [execOp, hS.eval hx, hS.eval hy]
    simp [gF, hr]
  refine wpList_step (fun K hK => ?_)
  rw [if_pos hwt]
  unfold Oper.wp
  rw [hrun, Oper.upon_value]
  exact hK _ _ (h _ w' r hf (hS.put _ hd) (by rcases hw with rfl | rfl; exact hM; exact hM.drew))
theorem s_tellsg {f : FuncId} {xs : List Operand} {ats : Array TypeId} {vs : List Value} {d j dj : Nat} {b : Bool} {oj : Oper} {R : Value → Prop} (hS : Slots a n E) (hM : Mem w0 w L) (hd : d < n) (hx : evs E xs = some vs) (hj : ops[j]? = some oj) (hdj : oj.dst = some dj)
    (hb : E dj = some (.bool b)) (hc : Tells P f vs.toArray w R)
    (h : ∀ a w v, R v → Slots a n (put E d v) → Mem w0 w L → wpList P ops Q rest a w) : wpList P ops Q (⟨some d, .call ⟨.value (.func f), xs.toArray, ats⟩, ty, pos, af, some (j, b)⟩ :: rest) a w := by
  have hw : Region.wanted ⟨some d, .call ⟨.value (.func f), xs.toArray, ats⟩, ty, pos, af, some (j, b)⟩ (yielded ops a.tmps) = true := by
    have := hS.get _ _ hb
    simp [Region.wanted, yielded, hj, hdj, this]
  refine wpList_step (fun K hK => ?_)
  rw [if_pos hw]
  unfold Oper.wp
  rw [run_call hc.ok hS hx, Oper.upon_enter]
  refine hc.calls.mono ?_
  rintro e w' ⟨v, rfl, hr, h'⟩
  exact hK _ _ (h _ w' v hr (hS.put v hd) (hM.after h'))
end
theorem b_neqFn (t : TypeId) {x : BitVec 64} {b : Bool} (h : nanB x = b) : binOp .neq t (F x) (F x) = pure (.bool b) := by rw [b_neqF, fo_self, h]
/-- Below nought, or the nought that has the sign. -/
def mn (x : BitVec 64) : Bool := !nanB x && sgn x
theorem mn_num {x : BitVec 64} (h : nanB x = false) : mn x = sgn x := by unfold mn; rw [h]; rfl
theorem mn_true {x : BitVec 64} (h : (fo x 0#64 == some .lt) = true) : true = mn x := by
  obtain ⟨h1, h2, _⟩ := lt_zero h
  rw [mn_num h1, h2]
theorem lt_sgn {r : BitVec 64} (hn : nanB r = false) (h0 : 0 < rung r) : (fo r 0#64 == some .lt) = sgn r := by
  rw [fo_zero r hn, cmp_int]
  unfold key sg
  cases sgn r with
  | true => rw [if_pos rfl, if_pos (by omega)]; rfl
  | false =>
    simp only [if_false, Bool.false_eq_true]
    rw [if_neg (by omega), if_neg (by omega)]; rfl
theorem mn_zero {x r : BitVec 64} (h : (fo x 0#64 == some .eq) = true) (hr : FR .quo 4607182418800017408#64 x r) : (fo r 0#64 == some .lt) = mn x := by
  obtain ⟨h1, h2⟩ := eq_zero h
  obtain ⟨a, b, c⟩ := one_by_zero h2 hr
  rw [lt_sgn a (by rw [c]; decide), b, mn_num h1]
theorem mn_no {x : BitVec 64} (h1 : (fo x 0#64 == some .lt) = false) (h2 : (fo x 0#64 == some .eq) = false) : false = mn x := by
  cases hn : nanB x with
  | true => unfold mn; rw [hn]; rfl
  | false => rw [mn_num hn, (not_zero hn h1 h2).1]
theorem fo_eqk {x y : BitVec 64} (h : (fo x y == some .eq) = true) : nanB x = false ∧ nanB y = false ∧ key x = key y := by
  cases hx : nanB x with
  | true => rw [fo_nanL hx] at h; cases h
  | false => cases hy : nanB y with
    | true => rw [fo_nanR hy] at h; cases h
    | false =>
      rw [fo_key hx hy, cmp_int] at h
      refine ⟨rfl, rfl, ?_⟩
      by_cases hk : key x < key y
      · rw [if_pos hk] at h; cases h
      · rw [if_neg hk] at h
        by_cases he : key x = key y
        · exact he
        · rw [if_neg he] at h; cases h
theorem eqk_fo {x y : BitVec 64} (hx : nanB x = false) (hy : nanB y = false) (h : key x = key y) : (fo x y == some .eq) = true := by
  rw [fo_key hx hy, cmp_int, if_neg (by omega), if_pos h]; rfl
theorem sgv_mn {x : BitVec 64} (h : nanB x = false) : sgv x = if mn x then -1 else 1 := by unfold sgv; rw [h, mn_num h]; rfl
theorem tie_lt {x y : BitVec 64} (h : (fo x y == some .eq) = true) (hx : mn x = true) (hy : mn y = false) : (-1 : Int) = ord x y := by
  obtain ⟨h1, h2, h3⟩ := fo_eqk h
  refine ord_lt ((nk_sgv h1 h2 h3).1.2 ?_)
  rw [sgv_mn h1, sgv_mn h2, hx, hy]; decide
theorem tie_gt {x y : BitVec 64} (h : (fo x y == some .eq) = true) (hx : mn x = false) (hy : mn y = true) : (1 : Int) = ord x y := by
  obtain ⟨h1, h2, h3⟩ := fo_eqk h
  refine ord_gt ((nk_sgv h1 h2 h3).2.2 ?_)
  rw [sgv_mn h1, sgv_mn h2, hx, hy]; decide
theorem tie_eq {x y : BitVec 64} (h : (fo x y == some .eq) = true) (hm : mn x = mn y) : (0 : Int) = ord x y := by
  obtain ⟨h1, h2, h3⟩ := fo_eqk h
  have := nk_sgv h1 h2 h3
  rw [sgv_mn h1, sgv_mn h2, hm] at this
  exact ord_eq (by omega)
theorem no_tie {x y : BitVec 64} (hx : nanB x = false) (hy : nanB y = false) (h1 : (fo x y == some .lt) = false) (h2 : (fo x y == some .gt) = false) (h3 : (fo x y == some .eq) = false) : False := by
  rw [eqk_fo hx hy (fo_not hx hy h1 h2)] at h3; cases h3
theorem gt_zero {z : BitVec 64} (hs : sgn z = false) (hn : nanB z = false) : (fo z 0#64 == some .gt) = decide (0 < rung z) := by
  rw [fo_zero z hn, cmp_int]
  unfold key sg
  rw [hs]
  simp only [if_false, Bool.false_eq_true]
  rw [if_neg (by omega)]
  by_cases h : (rung z : Int) = 0
  · rw [if_pos h, decide_eq_false (by omega)]; rfl
  · rw [if_neg h, decide_eq_true (by omega)]; rfl
/-- What a rate is. -/
def rate (n m : Int) (v : Value) : Prop := ∃ r, v = F r ∧ FR .quo (fi n) (fi m) r
/-- What a smoothed number is. -/
def smooth (x y : BitVec 64) (v : Value) : Prop := if nanB x then v = F y else if nanB y then v = F x else ∃ p q r, v = F r ∧ FR .sub y x p ∧ FR .quo p 4620693217682128896#64 q ∧ FR .add x q r
theorem smooth_old {x y : BitVec 64} (h : nanB x = true) : smooth x y (F y) := by unfold smooth; rw [if_pos h]
theorem smooth_now {x y : BitVec 64} (h : nanB x = false) (h' : nanB y = true) : smooth x y (F x) := by unfold smooth; rw [if_neg (by rw [h]; decide), if_pos h']
theorem smooth_mid {x y p q r : BitVec 64} (h : nanB x = false) (h' : nanB y = false) (h1 : FR .sub y x p) (h2 : FR .quo p 4620693217682128896#64 q) (h3 : FR .add x q r) : smooth x y (F r) := by
  unfold smooth; rw [if_neg (by rw [h]; decide), if_neg (by rw [h']; decide)]; exact ⟨p, q, r, rfl, h1, h2, h3⟩
theorem F_inj {x y : BitVec 64} (h : F x = F y) : x = y := by unfold F at h; exact BitVec.eq_of_toNat_eq (by injection h)
theorem smooth_al {x y : BitVec 64} {v v' : Value} (h : smooth x y v) (h' : smooth x y v') : ∃ r r', v = F r ∧ v' = F r' ∧ al r r' := by
  unfold smooth at h h'
  split at h
  · rename_i hx; rw [if_pos hx] at h'; exact ⟨_, _, h, h', .inl rfl⟩
  · rename_i hx; rw [if_neg hx] at h'
    split at h
    · rename_i hy; rw [if_pos hy] at h'; exact ⟨_, _, h, h', .inl rfl⟩
    · rename_i hy; rw [if_neg hy] at h'
      obtain ⟨p, q, r, e, h1, h2, h3⟩ := h
      obtain ⟨p', q', r', e', h1', h2', h3'⟩ := h'
      exact ⟨r, r', e, e', h3.al (al.refl _) (h2.al (h1.al (al.refl _) (al.refl _) h1') (al.refl _) h2') h3'⟩
theorem rate_al {n m : Int} {v v' : Value} (h : rate n m v) (h' : rate n m v') : ∃ r r', v = F r ∧ v' = F r' ∧ al r r' := by
  obtain ⟨r, e, h1⟩ := h
  obtain ⟨r', e', h2⟩ := h'
  exact ⟨r, r', e, e', h1.al (al.refl _) (al.refl _) h2⟩
theorem shw_al {x y : BitVec 64} (h : al x y) : shw x = shw y := by
  rcases h with rfl | ⟨h1, h2⟩
  · rfl
  · rw [shw_nan h1, shw_nan h2]
theorem tl_all : ∀ c : Fin 1000, (ds (1000 + c.val)).drop 1 = tl c.val := by decide +kernel
theorem tl_drop (n : Nat) : ((ds (1000 + n % 1000)).drop 1).take ((ds (1000 + n % 1000)).length - 1) = tl n := by
  rw [List.take_of_length_le (by rw [List.length_drop]; exact Nat.le_refl _), tl_all ⟨n % 1000, Nat.mod_lt _ (by decide)⟩]
  unfold tl
  simp only
  rw [show n % 1000 / 100 % 10 = n / 100 % 10 by omega, show n % 1000 / 10 % 10 = n / 10 % 10 by omega, show n % 1000 % 10 = n % 10 by omega]
theorem pre_len {l : List UInt8} {m : Nat} (h : l.length ≤ 1) : (l ++ ds m).length ≤ 8388608 := by rw [List.length_append]; have := ds_len m; omega
theorem pre_dot {l : List UInt8} {m : Nat} (h : l.length ≤ 1) : (l ++ ds m ++ [46]).length ≤ 8388608 := by rw [List.length_append, List.length_append]; have := ds_len m; show _ + 1 ≤ _; omega
theorem cut_len (m : Nat) : (((ds m).drop 1).take ((ds m).length - 1)).length ≤ 8388608 := by rw [List.length_take, List.length_drop]; have := ds_short m; omega
theorem th_def (n : Nat) : th n = ds (n / 1000) ++ [46] ++ tl n := rfl
theorem th_len (n : Nat) : (th n).length ≤ 8388608 := by
  rw [th_def, List.length_append, List.length_append]
  have := ds_len (n / 1000)
  show _ + 1 + 3 ≤ _
  omega
end Go.Sym
