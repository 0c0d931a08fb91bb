/-
  Strings: bytes as a string, comparison, sums, parts; regions that draw their order and make several slices.
-/
import Derived.Test.YtbfiaoemoookcaaDoorSymObj
import Derived.Laws.Strings2
import Derived.Laws.Concat
import Derived.Laws.BytesArg
import Derived.Laws.IdiomStrings
namespace Go.Sym
open Go Go.RowKit

/-- A string of these bytes. -/
def SV (l : List UInt8) : Value := .string ⟨l.toArray⟩
def bl (m : Nat) (f : Nat → BitVec 8) : List UInt8 := (List.range m).map fun i => UInt8.ofNat (f i).toNat
theorem bl_len (m : Nat) (f : Nat → BitVec 8) : (bl m f).length = m := by simp [bl]
theorem bl_congr {m : Nat} {f g : Nat → BitVec 8} (h : ∀ i, i < m → f i = g i) : bl m f = bl m g := by
  unfold bl
  exact List.map_congr_left fun i hi => by rw [h i (List.mem_range.1 hi)]

section
variable {P : Program} {Q : Exit → Act → World → Prop} {a : Act} {w w0 : World} {n : Nat} {E : Nat → Option Value} {L Lx : List Blk} {ops : Array Oper} {rest : List Oper}
variable {dst : Option Nat} {ty : TypeId} {pos : String} {af : Array Edge} {g : Option (Nat × Bool)}

theorem r_convS {s d e : TypeId} {x : Operand} {v : Value} {m : Nat} {f : Nat → BitVec 8} (hS : Slots a n E) (hx : ev E x = some v) (hr : Rd w v m (fun i => B (f i)))
    (hs : P.underlying s = some (.slice e)) (he : P.underlying e = some (.int .u8)) (hd : P.underlying d = some .string) : Run P a ⟨dst, .convert s d x, ty, pos, af, g⟩ w (SV (bl m f)) := by
  have key : (convert s d v).run P w = .ok (SV (bl m f)) w := by
    obtain ⟨ad, cap, rfl, hle, hnone, hc⟩ := hr
    cases ad with
    | none =>
      have h0 : m = 0 := by have := hnone rfl; omega
      subst h0
      have := run_convert_bytes_nil (P := P) w s e hs he 0 cap d hd
      rw [this]
      rfl
    | some x =>
      have := run_convert_bytes_back (P := P) w s d e x cap (bl m f) hs he hd (fun j hj => by
        have hj' : j < m := by rw [bl_len] at hj; exact hj
        obtain ⟨h1, h2⟩ := hc x rfl j hj'
        obtain ⟨b, o, sp⟩ := x
        simp only at h1
        subst h1
        rw [Addr.add_lit, h2]
        simp [bl, B])
      rw [bl_len] at this
      exact this
  simp [Run, execOp, hS.eval hx, key]
theorem r_eqlS {t t' : TypeId} {x y : Operand} {l l' : List UInt8} (hS : Slots a n E) (hx : ev E x = some (SV l)) (hy : ev E y = some (SV l')) : Run P a ⟨dst, .binOp .eql t x y t', ty, pos, af, g⟩ w (.bool (l == l')) :=
  r_bv hS hx hy (fun _ => eqGuard_at_string ..) (by unfold SV; rw [binOp_string_eql, ByteArray.toList_mk, ByteArray.toList_mk])
theorem r_eqlST {t t' : TypeId} {x y : Operand} {l l' : List UInt8} (hS : Slots a n E) (hx : ev E x = some (SV l)) (hy : ev E y = some (SV l')) (h : l = l') : Run P a ⟨dst, .binOp .eql t x y t', ty, pos, af, g⟩ w (.bool true) := by
  have := r_eqlS (P := P) (w := w) (dst := dst) (t := t) (t' := t') (ty := ty) (pos := pos) (af := af) (g := g) hS hx hy
  rwa [h, show (l' == l') = true from beq_self_eq_true _] at this
theorem r_neqST {t t' : TypeId} {x y : Operand} {l l' : List UInt8} (hS : Slots a n E) (hx : ev E x = some (SV l)) (hy : ev E y = some (SV l')) (h : l = l') : Run P a ⟨dst, .binOp .neq t x y t', ty, pos, af, g⟩ w (.bool false) :=
  r_bv hS hx hy (fun _ => eqGuard_at_string ..) (by unfold SV; rw [binOp_string_neq, ByteArray.toList_mk, ByteArray.toList_mk, h, show (l' == l') = true from beq_self_eq_true _]; rfl)
theorem r_addS {t t' : TypeId} {x y : Operand} {l l' : List UInt8} (hS : Slots a n E) (hx : ev E x = some (SV l)) (hy : ev E y = some (SV l')) (h : l.length ≤ 8388608) (h' : l'.length ≤ 8388608) : Run P a ⟨dst, .binOp .add t x y t', ty, pos, af, g⟩ w (SV (l ++ l')) := by
  have := run_string_add_lists (P := P) w l l' (by omega) (by omega)
  simp [Run, execOp, hS.eval hx, hS.eval hy, SV, eqGuard_at_string, binOp, this]
theorem r_sliceS {t : TypeId} {x lo hi : Operand} {l : List UInt8} {k k' : IntKind} {i j : Nat} (hS : Slots a n E) (hx : ev E x = some (SV l)) (hlo : ev E lo = some (.int k (i : Int))) (hhi : ev E hi = some (.int k' (j : Int)))
    (hT : P.underlying t = some .string) (h1 : i ≤ j) (h2 : j ≤ l.length) : Run P a ⟨dst, .slice t x (some lo) (some hi) none, ty, pos, af, g⟩ w (SV ((l.drop i).take (j - i))) := by
  have := run_slice_string (P := P) w t ⟨l.toArray⟩ k k' i j hT (by omega) (by omega) (by show (j : Int) ≤ (l.toArray.size : Int); rw [List.size_toArray]; omega)
  rw [Int.toNat_natCast, Int.toNat_natCast, ByteArray.extract_mk] at this
  simp [Run, execOp, hS.eval hx, hS.eval hlo, hS.eval hhi, SV, Instr.sliceAt, run_underlying hT, this]

def isS (v : Value) : Prop := ∃ a n c, v = .slice a n c
theorem Rd.isS {v : Value} {m : Nat} {F : Nat → Value} (h : Rd w v m F) : isS v := by
  obtain ⟨a, c, e, _⟩ := h
  exact ⟨a, m, c, e⟩
/-! ### regions that draw their order: guarded calls, several makers -/
theorem NewRow.fresh {f : FuncId} {args : Array Value} {el : TypeId} {m : Nat} {F : Nat → Value} (h : NewRow P f args w el m F) : Fresh P f args w el (cells m F) :=
  ⟨h.ok, h.calls.mono fun _ _ ⟨b, he, hb, hm⟩ => ⟨_, _, he, (by have := Own.row (e := el) (m0 := w.heap.size) (cells m F) hb; rwa [cells_len] at this), hm⟩⟩
theorem mem_sub {w0 w : World} {X L : List Blk} (hM : Mem w0 w (X ++ L)) {e : Blk} (h : e ∈ X) : w.heap[e.b]? = some (.cells e.cs.toArray e.t (0, 0)) := hM.have_ e (List.mem_append_left _ h)
theorem Own.rdIn {m0 : Nat} {e : TypeId} {v : Value} {m : Nat} {F : Nat → Value} {B X : List Blk} (h : Own m0 e v (cells m F) B) (hs : ∀ x ∈ B, x ∈ X) (hM : Mem w0 w (X ++ L)) : Rd w v m F := by
  rcases h with ⟨rfl, hx, rfl⟩ | ⟨b, cap, sp, rfl, hb, hc, rfl⟩
  · have h0 : m = 0 := by have := congrArg List.length hx; rwa [cells_len] at this
    subst h0
    exact Rd.nil w F
  · have h1 := hs _ (List.mem_singleton.2 rfl)
    obtain ⟨j, hj⟩ := List.getElem?_of_mem (List.mem_append_left L h1)
    rw [cells_len] at hc ⊢
    exact Rd.of_mem hM hj (by omega) (fun i hi => by rw [Nat.zero_add, List.getElem?_append_left (by rw [cells_len]; exact hi)]; exact cells_get hi)
variable {opl : List Oper} {R : Value → List Blk → World → Prop}
theorem gy_callg {f : FuncId} {xs : List Operand} {ats : Array TypeId} {vs : List Value} {j dj : Nat} {b : Bool} {oj : Oper} (hf : callable P f = true) (hS : Slots a n E) (hx : evs E xs = some vs)
    (hj : opl[j]? = some oj) (hdj : oj.dst = some dj) (hb : E dj = some (.bool b)) (hc : Calls P f vs.toArray w fun e w' => ∃ v B, e = .returned v ∧ R v B w') :
    GYields P opl ⟨dst, .call ⟨.value (.func f), xs.toArray, ats⟩, ty, pos, af, some (j, b)⟩ a w R :=
  .inl ⟨wanted_of hS rfl hj hdj hb, .inr ⟨f, _, run_call hf hS hx, hc⟩⟩
theorem gy_pureg {f : FuncId} {xs : List Operand} {ats : Array TypeId} {vs : List Value} {v : Value} {L : List Blk} {j dj : Nat} {b : Bool} {oj : Oper} (hS : Slots a n E) (hx : evs E xs = some vs)
    (hj : opl[j]? = some oj) (hdj : oj.dst = some dj) (hb : E dj = some (.bool b)) (hc : Pure P f vs.toArray w v) (hM : Mem w0 w L) (hR : ∀ w', Mem w0 w' L → R v [] w') :
    GYields P opl ⟨dst, .call ⟨.value (.func f), xs.toArray, ats⟩, ty, pos, af, some (j, b)⟩ a w R :=
  gy_callg hc.ok hS hx hj hdj hb (hc.calls.mono fun _ _ ⟨he, hm⟩ => ⟨v, [], he, hR _ (hM.after hm)⟩)
theorem gy_freshg {f : FuncId} {xs : List Operand} {ats : Array TypeId} {vs : List Value} {el : TypeId} {cs : List Value} {j dj : Nat} {b : Bool} {oj : Oper} (hS : Slots a n E) (hx : evs E xs = some vs)
    (hj : opl[j]? = some oj) (hdj : oj.dst = some dj) (hb : E dj = some (.bool b)) (hc : Fresh P f vs.toArray w el cs) (hM : Mem w0 w L)
    (hR : ∀ v Lx w', Own w0.heap.size el v cs Lx → Mem w0 w' (Lx ++ L) → R v Lx w') : GYields P opl ⟨dst, .call ⟨.value (.func f), xs.toArray, ats⟩, ty, pos, af, some (j, b)⟩ a w R :=
  gy_callg hc.ok hS hx hj hdj hb (hc.calls.mono fun _ w' ⟨v, Lx, he, ho, hm⟩ => ⟨v, Lx, he, hR v Lx w' (ho.mono hM.size) (hM.growX hm ho.ge)⟩)
theorem build_run {t el : TypeId} {len : Nat} {xs : List (Nat × Operand)} {vs : List (Nat × Value)} {cs : List Value} (hS : Slots a n E) (hx : evp E xs = some vs) (hb : BuildsRow P t el len vs cs) :
    (execOp a.eval ⟨dst, .buildSlice t len xs.toArray, ty, pos, af, g⟩).run P w = .ok (.value (.slice (some ⟨w.heap.size, 0, none⟩) len len)) (w.alloc (.cells cs.toArray el (0, 0))) := by
  have h1 := Slots.evalp (xs := xs) hS hx
  have h' : Array.map (fun (p : Nat × Operand) => (p.1, a.eval p.2)) xs.toArray = vs.toArray := by rw [← h1]; simp
  simp [execOp, h', hb w]
theorem own_new {t : TypeId} {cs : List Value} {len : Nat} (hM : Mem w0 w L) (hl : cs.length = len) : Own w0.heap.size t (.slice (some ⟨w.heap.size, 0, none⟩) len len) cs [⟨w.heap.size, t, cs⟩] := by
  have := Own.row (e := t) cs hM.size
  rwa [hl] at this
theorem gy_build {t el : TypeId} {len : Nat} {xs : List (Nat × Operand)} {vs : List (Nat × Value)} {cs : List Value} (hS : Slots a n E) (hx : evp E xs = some vs) (hb : BuildsRow P t el len vs cs) (hl : cs.length = len) (hM : Mem w0 w L)
    (hR : ∀ v Lx w', Own w0.heap.size el v cs Lx → Mem w0 w' (Lx ++ L) → R v Lx w') : GYields P opl ⟨dst, .buildSlice t len xs.toArray, ty, pos, af, none⟩ a w R :=
  gy_new rfl (build_run hS hx hb) (hR _ _ _ (own_new hM hl) (hM.alloc el cs))
theorem gy_buildg {t el : TypeId} {len : Nat} {xs : List (Nat × Operand)} {vs : List (Nat × Value)} {cs : List Value} {j dj : Nat} {b : Bool} {oj : Oper} (hS : Slots a n E) (hx : evp E xs = some vs)
    (hj : opl[j]? = some oj) (hdj : oj.dst = some dj) (hg : E dj = some (.bool b)) (hb : BuildsRow P t el len vs cs) (hl : cs.length = len) (hM : Mem w0 w L)
    (hR : ∀ v Lx w', Own w0.heap.size el v cs Lx → Mem w0 w' (Lx ++ L) → R v Lx w') : GYields P opl ⟨dst, .buildSlice t len xs.toArray, ty, pos, af, some (j, b)⟩ a w R :=
  .inl ⟨wanted_of hS rfl hj hdj hg, .inl ⟨_, _, _, .inl (build_run hS hx hb), hR _ _ _ (own_new hM hl) (hM.alloc el cs)⟩⟩
/-- A row that is wanted, made at once. -/
theorem s_buildSliceg {t el : TypeId} {d len j dj : Nat} {b : Bool} {oj : Oper} {xs : List (Nat × Operand)} {vs : List (Nat × Value)} {cs : List Value} (hS : Slots a n E) (hM : Mem w0 w L) (hd : d < n) (hx : evp E xs = some vs) (hj : ops[j]? = some oj) (hdj : oj.dst = some dj)
    (hg : E dj = some (.bool b)) (hb : BuildsRow P t el len vs cs)
    (h : ∀ a b w, w0.heap.size ≤ b → Slots a n (put E d (.slice (some ⟨b, 0, none⟩) len len)) → Mem w0 w (⟨b, el, cs⟩ :: L) → wpList P ops Q rest a w) : wpList P ops Q (⟨some d, .buildSlice t len xs.toArray, ty, pos, af, some (j, b)⟩ :: rest) a w := by
  have hw : Region.wanted ⟨some d, .buildSlice t len xs.toArray, ty, pos, af, some (j, b)⟩ (yielded ops a.tmps) = true := by
    have := hS.get _ _ hg
    simp [Region.wanted, yielded, hj, hdj, this]
  refine wpList_step (fun K hK => ?_)
  rw [if_pos hw]
  unfold Oper.wp
  rw [build_run hS hx hb, Oper.upon_value]
  exact hK _ _ (h _ _ _ hM.size (hS.put _ hd) (hM.alloc el cs))
end
end Go.Sym
