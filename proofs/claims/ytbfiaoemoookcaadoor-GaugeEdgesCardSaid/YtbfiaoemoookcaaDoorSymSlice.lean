/-
  The walk's laws on slices: a slice that can be read, a slice that is cut, copied, appended to. No program is in sight here.
-/
import Derived.Test.YtbfiaoemoookcaaDoorSymMem
import Derived.Deep.AppendSrc
import Derived.Laws.Slices
namespace Go.Sym
open Go Go.RowKit

section
variable {P : Program} {Q : Exit → Act → World → Prop} {a : Act} {w w0 w1 : World} {n : Nat} {E : Nat → Option Value} {L Lx : List Blk} {ops : Array Oper} {rest : List Oper}
variable {dst : Option Nat} {ty : TypeId} {pos : String} {af : Array Edge} {g : Option (Nat × Bool)}

/-! ### a slice that can be read -/

def rb : Value → Nat
  | .slice (some x) _ _ => x.block
  | _ => 0
def ro : Value → Nat
  | .slice (some x) _ _ => x.off
  | _ => 0

/-- A slice of m elements, a cell each, the i-th F i. -/
def Rd (w : World) (v : Value) (m : Nat) (F : Nat → Value) : Prop :=
  ∃ ad cap, v = .slice ad m cap ∧ m ≤ cap ∧ (ad = none → cap = 0) ∧ ∀ x, ad = some x → ∀ i, i < m → x.spot = none ∧ w.cell? ⟨x.block, x.off + i, none⟩ = some (F i)

theorem Rd.at {v : Value} {m i : Nat} {F : Nat → Value} (h : Rd w v m F) (hm : i < m) : ∃ cap, v = .slice (some ⟨rb v, ro v, none⟩) m cap ∧ m ≤ cap := by
  obtain ⟨ad, cap, rfl, hle, hnone, hc⟩ := h
  cases ad with
  | none => have := hnone rfl; omega
  | some x =>
    obtain ⟨b, off, sp⟩ := x
    have := (hc _ rfl i hm).1
    simp only at this
    subst this
    exact ⟨cap, rfl, hle⟩
theorem Rd.get {v : Value} {m i : Nat} {F : Nat → Value} (h : Rd w v m F) (hm : i < m) : w.cell? ⟨rb v, ro v + i, none⟩ = some (F i) := by
  obtain ⟨ad, cap, rfl, hle, hnone, hc⟩ := h
  cases ad with
  | none => have := hnone rfl; omega
  | some x => exact (hc _ rfl i hm).2
theorem Rd.lt {v : Value} {m : Nat} {F : Nat → Value} (h : Rd w v m F) (hm : 0 < m) : rb v < w.heap.size := by
  have := h.get hm
  unfold World.cell? at this
  by_cases hlt : rb v < w.heap.size
  · exact hlt
  · have hn : w.heap[rb v]? = none := by simp; omega
    simp only [hn] at this
    cases this
theorem Rd.congr {v : Value} {m : Nat} {F G : Nat → Value} (h : Rd w v m F) (e : ∀ i, i < m → F i = G i) : Rd w v m G := by
  obtain ⟨ad, cap, rfl, hle, hnone, hc⟩ := h
  exact ⟨ad, cap, rfl, hle, hnone, fun x hx i hi => ⟨(hc x hx i hi).1, by rw [← e i hi]; exact (hc x hx i hi).2⟩⟩
theorem Rd.of_cells {v : Value} {m : Nat} {F : Nat → Value} {w' : World} (h : Rd w v m F) (hc : 0 < m → ∀ o, w'.cell? ⟨rb v, o, none⟩ = w.cell? ⟨rb v, o, none⟩) : Rd w' v m F := by
  obtain ⟨ad, cap, rfl, hle, hnone, hc'⟩ := h
  exact ⟨ad, cap, rfl, hle, hnone, fun x hx i hi => ⟨(hc' x hx i hi).1, by
    subst hx
    have h1 := hc (by omega) (x.off + i)
    simp only [rb] at h1
    rw [h1]
    exact (hc' x rfl i hi).2⟩⟩
/-- It can be read still: no known block is its own. -/
theorem Rd.keep {v : Value} {m : Nat} {F : Nat → Value} (h : Rd w0 v m F) (hM : Mem w0 w L) (hne : 0 < m → ∀ e ∈ L, e.b ≠ rb v) : Rd w v m F :=
  h.of_cells fun hm o => hM.outer (a := ⟨rb v, o, none⟩) (h.lt hm) (hne hm)
theorem Rd.keepGe {v : Value} {m : Nat} {F : Nat → Value} (h : Rd w0 v m F) (hM : Mem w0 w L) (hge : allGe w0.heap.size L) : Rd w v m F :=
  h.keep hM fun hm e he => by have h1 := allGe_spec hge e he; have h2 := h.lt hm; omega
theorem Rd.nil (w : World) (F : Nat → Value) : Rd w (.slice none 0 0) 0 F := ⟨none, 0, rfl, Nat.le_refl _, fun _ => rfl, fun x hx => by cases hx⟩
/-- A slice of a block that is known. -/
theorem Rd.of_mem {b o t m cap j : Nat} {cs : List Value} {F : Nat → Value} (hM : Mem w0 w L) (hj : L[j]? = some ⟨b, t, cs⟩) (hle : m ≤ cap) (hF : ∀ i, i < m → cs[o + i]? = some (F i)) : Rd w (.slice (some ⟨b, o, none⟩) m cap) m F :=
  ⟨_, cap, rfl, hle, (fun h => by cases h), (fun x hx i hi => by
    cases hx
    exact ⟨rfl, by rw [hM.cell hj]; exact hF i hi⟩)⟩

/-- A slice that is cut. -/
def slc : Value → Nat → Nat → Value
  | .slice ad _ cap, l, h => .slice (if cap = l then ad else ad.map (·.add l)) (h - l) (cap - l)
  | v, _, _ => v

theorem Rd.slc {v : Value} {m l h : Nat} {F : Nat → Value} (hr : Rd w v m F) (hlh : l ≤ h) (hh : h ≤ m) : Rd w (slc v l h) (h - l) (fun i => F (l + i)) := by
  obtain ⟨ad, cap, rfl, hle, hnone, hc⟩ := hr
  refine ⟨_, cap - l, rfl, by omega, ?_, ?_⟩
  · split
    · intro _; omega
    · cases ad with
      | none => have := hnone rfl; omega
      | some x => intro h; cases h
  · intro x hx i hi
    split at hx
    · omega
    · cases ad with
      | none => cases hx
      | some y =>
        obtain ⟨b, off, sp⟩ := y
        have hs := (hc _ rfl (l + i) (by omega)).1
        simp only at hs
        subst hs
        have hadd : (⟨b, off, none⟩ : Addr).add l = ⟨b, off + l, none⟩ := Addr.add_lit ..
        simp only [Option.map_some, hadd, Option.some.injEq] at hx
        subst hx
        refine ⟨rfl, ?_⟩
        have := (hc _ rfl (l + i) (by omega)).2
        simp only at this ⊢
        rw [Nat.add_assoc]
        exact this

/-- Where a bound stands. -/
def Bnd (E : Nat → Option Value) : Option Operand → Nat → Nat → Prop
  | none, d, l => l = d
  | some x, _, l => ∃ k, ev E x = some (.int k (l : Int))

theorem run_bounds {isS : Bool} {len cap l h : Nat} {lo hi : Option Operand} (hS : Slots a n E) (hlo : Bnd E lo 0 l) (hhi : Bnd E hi len h) (hlh : l ≤ h) (hh : h ≤ cap) :
    (Instr.sliceBounds isS len cap (lo.map a.eval) (hi.map a.eval) none).run P w = .ok (l, h, cap) w := by
  have h1 : ((h : Int) ≤ (cap : Int)) := by omega
  have h2 : ((l : Int) ≤ (h : Int)) := by omega
  have h3 : ((0 : Int) ≤ (h : Int)) := by omega
  have h4 : ((0 : Int) ≤ (l : Int)) := by omega
  cases hi with
  | none =>
    simp only [Bnd] at hhi
    subst hhi
    cases lo with
    | none => simp only [Bnd] at hlo; subst hlo; simp [Instr.sliceBounds]
    | some x =>
      obtain ⟨k, hx⟩ := hlo
      simp [Instr.sliceBounds, Instr.sliceBound, asIntOf, hS.eval hx, hlh]
  | some y =>
    obtain ⟨k', hy⟩ := hhi
    cases lo with
    | none => simp only [Bnd] at hlo; subst hlo; simp [Instr.sliceBounds, Instr.sliceBound, asIntOf, hS.eval hy, hh]
    | some x =>
      obtain ⟨k, hx⟩ := hlo
      simp [Instr.sliceBounds, Instr.sliceBound, asIntOf, hS.eval hx, hS.eval hy, hh, hlh]

/-- a slice of a slice -/
theorem r_slice {t el : TypeId} {x : Operand} {lo hi : Option Operand} {ad : Option Addr} {len cap l h : Nat} (hS : Slots a n E) (hx : ev E x = some (.slice ad len cap)) (hT : P.underlying t = some (.slice el)) (hs : (P.info? el).map (·.size) = some 1)
    (hlo : Bnd E lo 0 l) (hhi : Bnd E hi len h) (hlh : l ≤ h) (hh : h ≤ cap) : Run P a ⟨dst, .slice t x lo hi none, ty, pos, af, g⟩ w (slc (.slice ad len cap) l h) := by
  have hb := run_bounds (P := P) (w := w) (isS := true) (cap := cap) hS hlo hhi hlh hh
  simp [Run, execOp, hS.eval hx, Instr.sliceAt, run_underlying hT, Instr.slice, hb, run_sizeOf hs, slc]
theorem r_sliceR {t el : TypeId} {x : Operand} {lo hi : Option Operand} {v : Value} {w' : World} {F : Nat → Value} {m l h : Nat} (hS : Slots a n E) (hx : ev E x = some v) (hr : Rd w' v m F) (hT : P.underlying t = some (.slice el)) (hs : (P.info? el).map (·.size) = some 1)
    (hlo : Bnd E lo 0 l) (hhi : Bnd E hi m h) (hlh : l ≤ h) (hh : h ≤ m) : Run P a ⟨dst, .slice t x lo hi none, ty, pos, af, g⟩ w (slc v l h) := by
  obtain ⟨ad, cap, rfl, hle, _, _⟩ := hr
  exact r_slice hS hx hT hs hlo hhi hlh (by omega)
/-- a slice of an array -/
theorem r_sliceA {t el : TypeId} {x : Operand} {lo hi : Option Operand} {b off len l h : Nat} (hS : Slots a n E) (hx : ev E x = some (ptr b off)) (hT : P.underlying t = some (.array len el)) (hs : (P.info? el).map (·.size) = some 1)
    (hlo : Bnd E lo 0 l) (hhi : Bnd E hi len h) (hlh : l ≤ h) (hh : h ≤ len) : Run P a ⟨dst, .slice t x lo hi none, ty, pos, af, g⟩ w (slc (.slice (some ⟨b, off, none⟩) len len) l h) := by
  have hb := run_bounds (P := P) (w := w) (isS := false) (cap := len) hS hlo hhi hlh hh
  simp [Run, execOp, hS.eval hx, Instr.sliceAt, run_underlying hT, hb, run_sizeOf hs, slc, Instr.sureAddr, ptr]
  split <;> rfl
theorem slc_all {ad : Option Addr} {len : Nat} {b off : Nat} (h : ad = some ⟨b, off, none⟩) : slc (.slice ad len len) 0 len = .slice ad len len := by
  subst h
  unfold slc
  have hadd : (⟨b, off, none⟩ : Addr).add 0 = ⟨b, off, none⟩ := Addr.add_lit ..
  simp [hadd]
theorem r_sliceA0 {t el : TypeId} {x : Operand} {b off len : Nat} (hS : Slots a n E) (hx : ev E x = some (ptr b off)) (hT : P.underlying t = some (.array len el)) (hs : (P.info? el).map (·.size) = some 1) :
    Run P a ⟨dst, .slice t x none none none, ty, pos, af, g⟩ w (.slice (some ⟨b, off, none⟩) len len) := by
  have := r_sliceA (P := P) (w := w) (dst := dst) (ty := ty) (pos := pos) (af := af) (g := g) (lo := none) (hi := none) (l := 0) (h := len) hS hx hT hs rfl rfl (Nat.zero_le _) (Nat.le_refl _)
  rw [slc_all rfl] at this
  exact this

theorem r_lenR {x : Operand} {v : Value} {m : Nat} {F : Nat → Value} {w' : World} {t el : TypeId} (hS : Slots a n E) (hx : ev E x = some v) (hr : Rd w' v m F) (hT : P.underlying t = some (.slice el)) :
    Run P a ⟨dst, .call ⟨.builtin .len, #[x], #[t]⟩, ty, pos, af, g⟩ w (N m) := by
  obtain ⟨ad, cap, rfl, _, _, _⟩ := hr
  exact r_len hS hx hT
theorem r_indexR {t el : TypeId} {x y : Operand} {v : Value} {m i : Nat} {F : Nat → Value} {w' : World} {k : IntKind} (hS : Slots a n E) (hx : ev E x = some v) (hr : Rd w' v m F) (hy : ev E y = some (.int k (i : Int))) (hT : P.underlying t = some (.slice el))
    (hs : (P.info? el).map (·.size) = some 1) (hi : i < m) : Run P a ⟨dst, .indexAddr t x y, ty, pos, af, g⟩ w (ptr (rb v) (ro v + i)) := by
  obtain ⟨cap, hv, _⟩ := hr.at hi
  rw [hv] at hx
  exact r_indexS1 hS hx hy hT hs hi
theorem r_loadR {t : TypeId} {x : Operand} {v : Value} {m i : Nat} {F : Nat → Value} {d : TypeDesc} (hS : Slots a n E) (hx : ev E x = some (ptr (rb v) (ro v + i))) (hr : Rd w v m F) (hi : i < m)
    (hT : P.underlying t = some d) (hd : aggB d = false) : Run P a ⟨dst, .load t x, ty, pos, af, g⟩ w (F i) := by
  have := run_loadOne (P := P) (w := w) (a := ⟨rb v, ro v + i, none⟩) hT hd (hr.get hi)
  simp [Run, execOp, hS.eval hx, Instr.loadAt, Instr.sureAddr, ptr, this]

/-- what a slice hands on -/
theorem Rd.src {v : Value} {m : Nat} {F : Nat → Value} {tx e' : TypeId} (hr : Rd w v m F) (hk : P.underlying tx = some (.slice e')) (h1 : ∀ i, i < m → (F i).oneCell' = true) : Src P 1 tx v m (cells m F) w := by
  obtain ⟨ad, cap, rfl, hle, hnone, hc⟩ := hr
  cases ad with
  | none =>
    have : cap = 0 := hnone rfl
    subst this
    have : m = 0 := by omega
    subst this
    exact Src.ofNil w hk 0
  | some x =>
    obtain ⟨b, off, sp⟩ := x
    refine Src.ofSlice w hk ⟨b, off, sp⟩ m cap (cells m F) (by rw [cells_len, Nat.mul_one]) (fun j u hu => ?_) (fun u hu => ?_)
    · have hj : j < m := by have := (List.getElem?_eq_some_iff.1 hu).1; rwa [cells_len] at this
      rw [cells_get hj] at hu
      cases hu
      have hs := (hc _ rfl j hj).1
      simp only at hs
      subst hs
      have hadd : (⟨b, off, none⟩ : Addr).add j = ⟨b, off + j, none⟩ := Addr.add_lit ..
      rw [hadd]
      exact (hc _ rfl j hj).2
    · obtain ⟨i, hi, rfl⟩ := List.mem_map.1 hu
      exact h1 i (List.mem_range.1 hi)

/-! ### a slice that the call has made -/

/-- A slice of the elements xs that the call has made: none, or one row of its own. -/
def Own (m0 : Nat) (e : TypeId) (v : Value) (xs : List Value) (Lx : List Blk) : Prop :=
  (v = .slice none 0 0 ∧ xs = [] ∧ Lx = []) ∨ ∃ b cap sp, v = .slice (some ⟨b, 0, none⟩) xs.length cap ∧ m0 ≤ b ∧ xs.length + sp.length = cap ∧ Lx = [⟨b, e, xs ++ sp⟩]

theorem Own.nil {m0 : Nat} {e : TypeId} : Own m0 e (.slice none 0 0) [] [] := .inl ⟨rfl, rfl, rfl⟩
theorem Own.row {m0 : Nat} {e : TypeId} {b : Nat} (xs : List Value) (hb : m0 ≤ b) : Own m0 e (.slice (some ⟨b, 0, none⟩) xs.length xs.length) xs [⟨b, e, xs⟩] := .inr ⟨b, xs.length, [], rfl, hb, rfl, by simp⟩
theorem Own.ge {m0 : Nat} {e : TypeId} {v : Value} {xs : List Value} (h : Own m0 e v xs Lx) : ∀ x ∈ Lx, m0 ≤ x.b := by
  rcases h with ⟨_, _, rfl⟩ | ⟨b, cap, sp, _, hb, _, rfl⟩
  · intro x hx; cases hx
  · intro x hx; simp only [List.mem_singleton] at hx; subst hx; exact hb
theorem Own.rd {m0 : Nat} {e : TypeId} {v : Value} {xs : List Value} {F : Nat → Value} (h : Own m0 e v xs Lx) (hM : Mem w0 w (L ++ Lx)) (hF : ∀ i, i < xs.length → xs[i]? = some (F i)) : Rd w v xs.length F := by
  rcases h with ⟨rfl, rfl, rfl⟩ | ⟨b, cap, sp, rfl, hb, hc, rfl⟩
  · exact Rd.nil w F
  · have hj : (L ++ [⟨b, e, xs ++ sp⟩])[L.length]? = some ⟨b, e, xs ++ sp⟩ := by simp
    exact Rd.of_mem hM hj (by omega) (fun i hi => by rw [Nat.zero_add, List.getElem?_append_left hi]; exact hF i hi)
theorem Own.rdCells {m0 : Nat} {e : TypeId} {v : Value} {m : Nat} {F : Nat → Value} (h : Own m0 e v (cells m F) Lx) (hM : Mem w0 w (L ++ Lx)) : Rd w v m F := by
  have := h.rd hM (F := F) (fun i hi => cells_get (by rwa [cells_len] at hi))
  rwa [cells_len] at this

theorem Mem.dropRight {w0 w : World} {X : List Blk} : ∀ {L : List Blk}, Mem w0 w (L ++ X) → (∀ e ∈ X, w0.heap.size ≤ e.b) → Mem w0 w L := by
  intro L h hX
  refine ⟨h.os, h.tape, h.output, h.size, fun k hk hne => h.old k hk (fun e he => ?_), fun e he => h.have_ e (List.mem_append_left _ he), ?_⟩
  · rcases List.mem_append.1 he with he | he
    · exact hne e he
    · have := hX e he; omega
  · have := h.nodup
    rw [List.map_append, List.nodup_append] at this
    exact this.1

theorem Mem.drew {w0 w : World} {L : List Blk} (h : Mem w0 w L) : Mem w0 w.drew L := ⟨h.os, h.tape, h.output, h.size, h.old, h.have_, h.nodup⟩

/-- A further block at the end. -/
theorem Mem.allocR {w0 w : World} {L : List Blk} (h : Mem w0 w L) (t : TypeId) (cs : List Value) : Mem w0 (w.alloc (.cells cs.toArray t (0, 0))) (L ++ [⟨w.heap.size, t, cs⟩]) := by
  have h1 := h.alloc t cs
  refine ⟨h1.os, h1.tape, h1.output, h1.size, fun k hk hne => h1.old k hk (fun e he => hne e (by simpa [or_comm] using he)), fun e he => h1.have_ e (by simpa [or_comm] using he), ?_⟩
  have := h1.nodup
  simp only [List.map_append, List.map_cons, List.map_nil, List.nodup_cons] at this ⊢
  rw [List.nodup_append]
  refine ⟨this.2, by simp, fun x hx y hy hxy => ?_⟩
  simp only [List.mem_singleton] at hy
  subst hy; subst hxy
  exact this.1 hx

theorem setAt_last {L : List Blk} {e : Blk} {cs : List Value} : setAt (L ++ [e]) L.length cs = L ++ [⟨e.b, e.t, cs⟩] := by
  induction L with
  | nil => rfl
  | cons x L ih => simp only [List.cons_append, List.length_cons, setAt, ih]

/-- What is known of a type of slices: its elements' type, their zero, that they are of one cell. -/
structure ElemOk (P : Program) (t e : TypeId) (z : Value) (bytes : Nat) : Prop where
  ht : P.underlying t = some (.slice e)
  hi : (P.info? e).map (fun i => (i.zero, i.size, i.bytes)) = some (some z, 1, bytes)
  hz : z.cells.size = 1
  hb : bytes ≤ 8

theorem own_append {t tx e : TypeId} {z v x : Value} {bytes m : Nat} {xs news : List Value} (he : ElemOk P t e z bytes) (hM : Mem w0 w (L ++ Lx)) (ho : Own w0.heap.size e v xs Lx) (hs : Src P 1 tx x m news w) (hn : xs.length + m ≤ 1099511627776) :
    ∃ v' w' Lx', (Builtin.append_ #[t, tx] ty #[v, x]).run P w = .ok v' w' ∧ Own w0.heap.size e v' (xs ++ news) Lx' ∧ Mem w0 w' (L ++ Lx') := by
  obtain ⟨i, hi⟩ : ∃ i, P.info? e = some i := by
    cases h : P.info? e with
    | none => have := he.hi; rw [h] at this; cases this
    | some i => exact ⟨i, rfl⟩
  have hh := he.hi
  rw [hi] at hh
  simp only [Option.map_some, Option.some.injEq, Prod.mk.injEq] at hh
  obtain ⟨hz, h1, hby⟩ := hh
  have hml : news.length = m := by rw [hs.newsLen, Nat.mul_one]
  have hb8 := he.hb
  have fits : ∀ old, old < xs.length + m → Builtin.nextslicecap (xs.length + m) old * i.bytes ≤ 281474976710656 := fun old hlt => growslice_fits hlt (by
    have : (xs.length + m) * i.bytes ≤ (xs.length + m) * 8 := Nat.mul_le_mul_left _ (by omega)
    omega)
  have hzc : ∀ k, (Builtin.zeroCells z.cells k).size = k := fun k => by rw [size_zeroCells, he.hz, Nat.mul_one]
  have grow : ∀ (base : Option Addr) (cap : Nat), v = .slice base xs.length cap → cap < xs.length + m → (Builtin.firstCells 1 xs.length (.slice base xs.length cap)).run P w.drew = .ok xs.toArray w.drew →
      ∃ v' w' Lx', (Builtin.append_ #[t, tx] ty #[v, x]).run P w = .ok v' w' ∧ Own w0.heap.size e v' (xs ++ news) Lx' ∧ Mem w0 w' (L ++ Lx') := by
    intro base cap hv hlt hold
    subst hv
    have hr := run_append_grow_src (P := P) w t tx ty e i z he.ht hi hz base xs.length cap xs (by rw [h1]; exact hold) x m news (by rw [h1]; exact hs) hlt (by omega) (fits cap hlt)
    have hge := grownCap_ge w (xs.length + m) cap e
    have hL : Mem w0 w.drew L := (hM.dropRight ho.ge).drew
    have hA := hL.allocR e ((xs ++ news) ++ (Builtin.zeroCells z.cells (grownCap w (xs.length + m) cap e - (xs.length + m))).toList)
    refine ⟨_, _, _, hr, .inr ⟨w.heap.size, grownCap w (xs.length + m) cap e, (Builtin.zeroCells z.cells (grownCap w (xs.length + m) cap e - (xs.length + m))).toList, ?_, hM.size, ?_, rfl⟩, ?_⟩
    · rw [List.length_append, hml]
    · have h4 : (Builtin.zeroCells z.cells (grownCap w (xs.length + m) cap e - (xs.length + m))).toList.length = grownCap w (xs.length + m) cap e - (xs.length + m) := Eq.trans Array.length_toList (hzc _)
      rw [List.length_append, hml, h4]; omega
    · have e1 : ((xs ++ news).toArray ++ Builtin.zeroCells z.cells (grownCap w (xs.length + m) cap e - (xs.length + m))) = ((xs ++ news) ++ (Builtin.zeroCells z.cells (grownCap w (xs.length + m) cap e - (xs.length + m))).toList).toArray := by
        apply Array.ext'
        simp
      rw [e1]
      exact hA
  rcases ho with ⟨rfl, rfl, rfl⟩ | ⟨b, cap, sp, rfl, hb, hc, rfl⟩
  · by_cases hm : m = 0
    · subst hm
      have hnews : news = [] := List.eq_nil_of_length_eq_zero hml
      subst hnews
      refine ⟨.slice none 0 0, w, [], ?_, .inl ⟨rfl, rfl, rfl⟩, hM⟩
      rcases hs.kind with ⟨e', hk⟩ | hk <;> simp [Builtin.append_, run_underlying he.ht, run_underlying hk, sizeOf, typeInfo, hi, hs.len, h1, hs.cells]
    · exact grow none 0 rfl (by simp; omega) (run_firstCells_none w.drew 1 0 0 0)
  · by_cases hroom : xs.length + m ≤ cap
    · have hj : (L ++ [⟨b, e, xs ++ sp⟩])[L.length]? = some ⟨b, e, xs ++ sp⟩ := by simp
      obtain ⟨w', hst, hM'⟩ := storeCells_run (P := P) news (xs ++ sp) xs.length 0 w hM hj hs.one (by rw [List.length_append, hml]; omega)
      have hsp : splice (xs ++ sp) (xs.length + 0) news = xs ++ news ++ sp.drop m := by
        have h2 : xs ++ sp = xs ++ sp.take m ++ sp.drop m := by rw [List.append_assoc, List.take_append_drop]
        rw [h2, Nat.add_zero]
        exact splice_spec news xs (sp.take m) (sp.drop m) (by rw [List.length_take, hml]; omega)
      rw [hsp, setAt_last] at hM'
      refine ⟨.slice (some ⟨b, 0, none⟩) (xs.length + m) cap, w', _, ?_, .inr ⟨b, cap, sp.drop m, by rw [List.length_append, hml], hb, by rw [List.length_append, hml, List.length_drop]; omega, rfl⟩, hM'⟩
      rcases hs.kind with ⟨e', hk⟩ | hk <;> simp [Builtin.append_, run_underlying he.ht, run_underlying hk, sizeOf, typeInfo, hi, hs.len, h1, hroom, hs.cells, Addr.add_lit, hst]
    · have hj : (L ++ [⟨b, e, xs ++ sp⟩])[L.length]? = some ⟨b, e, xs ++ sp⟩ := by simp
      refine grow _ cap rfl (by omega) (run_firstCells_some w.drew 1 xs.length _ _ _ xs (by rw [Nat.mul_one]) (fun j u hu => ?_))
      have hjl : j < xs.length := (List.getElem?_eq_some_iff.1 hu).1
      rw [Addr.add_lit, Nat.zero_add, hM.drew.cell hj, List.getElem?_append_left hjl]
      exact hu

theorem s_append {t tx e : TypeId} {z v u : Value} {bytes m d : Nat} {xs news : List Value} {x y : Operand} (hS : Slots a n E) (L : List Blk) (hM : Mem w0 w (L ++ Lx)) (hd : d < n) (hx : ev E x = some v) (hy : ev E y = some u) (he : ElemOk P t e z bytes)
    (ho : Own w0.heap.size e v xs Lx) (hs : Src P 1 tx u m news w) (hn : xs.length + m ≤ 1099511627776)
    (h : ∀ a w v Lx, Own w0.heap.size e v (xs ++ news) Lx → Slots a n (put E d v) → Mem w0 w (L ++ Lx) → wpList P ops Q rest a w) : wpList P ops Q (⟨some d, .call ⟨.builtin .append, #[x, y], #[t, tx]⟩, ty, pos, af, none⟩ :: rest) a w := by
  obtain ⟨v', w', Lx', hr, ho', hM'⟩ := own_append (P := P) (ty := ty) he hM ho hs hn
  exact s_op hS hd rfl rfl (by simp [execOp, resolve, invoke, builtin, hS.eval hx, hS.eval hy, hr]) (fun a hS => h a _ _ _ ho' hS hM')

/-- A row of its own, made at once. -/
def BuildsRow (P : Program) (t el : TypeId) (len : Nat) (parts : List (Nat × Value)) (cs : List Value) : Prop :=
  ∀ w, (Instr.buildSlice t len parts.toArray).run P w = .ok (.slice (some ⟨w.heap.size, 0, none⟩) len len) (w.alloc (.cells cs.toArray el (0, 0)))
theorem s_buildSlice {t el : TypeId} {d len : Nat} {xs : List (Nat × Operand)} {vs : List (Nat × Value)} {cs : List Value} (hS : Slots a n E) (hM : Mem w0 w L) (hd : d < n) (hx : evp E xs = some vs) (hb : BuildsRow P t el len vs cs)
    (h : ∀ a b w, w0.heap.size ≤ b → Slots a n (put E d (.slice (some ⟨b, 0, none⟩) len len)) → Mem w0 w (⟨b, el, cs⟩ :: L) → wpList P ops Q rest a w) : wpList P ops Q (⟨some d, .buildSlice t len xs.toArray, ty, pos, af, none⟩ :: rest) a w := by
  have h1 := Slots.evalp (xs := xs) hS hx
  have h' : Array.map (fun (p : Nat × Operand) => (p.1, a.eval p.2)) xs.toArray = vs.toArray := by rw [← h1]; simp
  exact s_op hS hd rfl rfl (by simp [execOp, h', hb w]) (fun a hS => h a _ _ hM.size hS (hM.alloc el cs))

/-- One row is copied into a block that is known. -/
theorem run_copy {t tx e : TypeId} {b o len cap j bt : Nat} {cs : List Value} {u : Value} {m : Nat} {F : Nat → Value} (ht : P.underlying t = some (.slice e)) (hs : (P.info? e).map (·.size) = some 1) (hM : Mem w0 w L) (hj : L[j]? = some ⟨b, bt, cs⟩)
    (hr : Rd w u m F) (h1 : ∀ i, i < m → (F i).oneCell' = true) (hle : o + min m len ≤ cs.length) :
    ∃ w', (Builtin.copy_ #[t, tx] ty #[.slice (some ⟨b, o, none⟩) len cap, u]).run P w = .ok (N (min m len)) w' ∧ Mem w0 w' (setAt L j (splice cs o (cells (min m len) F))) := by
  obtain ⟨w', hst, hM'⟩ := storeCells_run (P := P) (cells (min m len) F) cs o 0 w hM hj (fun v hv => by obtain ⟨i, hi, rfl⟩ := List.mem_map.1 hv; exact h1 i (by have := List.mem_range.1 hi; omega)) (by rw [cells_len]; omega)
  refine ⟨w', ?_, by simpa using hM'⟩
  obtain ⟨ad, ucap, rfl, hle', hnone, hc⟩ := hr
  have hf : (Builtin.firstCells 1 (min m len) (.slice ad m ucap)).run P w = .ok (cells (min m len) F).toArray w := by
    cases ad with
    | none =>
      have : m = 0 := by have := hnone rfl; omega
      subst this
      simp [Builtin.firstCells, cells]
    | some x =>
      obtain ⟨b', o', sp⟩ := x
      refine run_firstCells_some w 1 (min m len) _ m ucap (cells (min m len) F) (by rw [cells_len, Nat.mul_one]) (fun k v hv => ?_)
      have hk' : k < min m len := by have := (List.getElem?_eq_some_iff.1 hv).1; rwa [cells_len] at this
      rw [cells_get hk'] at hv
      cases hv
      have hsp := (hc _ rfl k (by omega)).1
      simp only at hsp
      subst hsp
      rw [Addr.add_lit]
      exact (hc _ rfl k (by omega)).2
  simp only [Nat.min_def] at hf hst
  simp [Builtin.copy_, run_underlying ht, run_sizeOf hs, Builtin.lenOf, Nat.min_def, hf, hst, goInt, N]

theorem s_copy {t tx e : TypeId} {d : Nat} {x y : Operand} {b o len cap j bt : Nat} {cs : List Value} {u : Value} {m : Nat} {F : Nat → Value} (hS : Slots a n E) (hM : Mem w0 w L) (hd : d < n) (hx : ev E x = some (.slice (some ⟨b, o, none⟩) len cap)) (hy : ev E y = some u)
    (ht : P.underlying t = some (.slice e)) (hs : (P.info? e).map (·.size) = some 1) (hj : L[j]? = some ⟨b, bt, cs⟩) (hr : Rd w u m F) (h1 : ∀ i, i < m → (F i).oneCell' = true) (hle : o + min m len ≤ cs.length)
    (h : ∀ a w, Slots a n (put E d (N (min m len))) → Mem w0 w (setAt L j (splice cs o (cells (min m len) F))) → wpList P ops Q rest a w) : wpList P ops Q (⟨some d, .call ⟨.builtin .copy, #[x, y], #[t, tx]⟩, ty, pos, af, none⟩ :: rest) a w := by
  obtain ⟨w', hc, hM'⟩ := run_copy (P := P) (ty := ty) (tx := tx) (cap := cap) ht hs hM hj hr h1 hle
  exact s_op hS hd rfl rfl (by simp [execOp, resolve, invoke, builtin, hS.eval hx, hS.eval hy, hc]) (fun a hS => h a _ hS hM')

theorem splice_cells {m k o : Nat} {F G : Nat → Value} (hle : o + k ≤ m) : splice (cells m F) o (cells k G) = cells m (fun i => if o ≤ i ∧ i < o + k then G (i - o) else F i) := by
  have h0 : cells m F = cells o F ++ cells k (fun i => F (o + i)) ++ cells (m - o - k) (fun i => F (o + k + i)) := by
    apply List.ext_getElem?
    intro i
    by_cases h1 : i < o
    · rw [cells_get (by omega), List.append_assoc, List.getElem?_append_left (by rw [cells_len]; exact h1), cells_get h1]
    · by_cases h2 : i < o + k
      · rw [cells_get (by omega), List.append_assoc, List.getElem?_append_right (by rw [cells_len]; omega), cells_len, List.getElem?_append_left (by rw [cells_len]; omega), cells_get (by omega)]
        simp only [show o + (i - o) = i by omega]
      · rw [List.append_assoc, List.getElem?_append_right (by rw [cells_len]; omega), cells_len, List.getElem?_append_right (by rw [cells_len]; omega), cells_len]
        by_cases h3 : i < m
        · rw [cells_get h3, cells_get (by omega)]
          simp only [show o + k + (i - o - k) = i by omega]
        · rw [List.getElem?_eq_none (by rw [cells_len]; omega), List.getElem?_eq_none (by rw [cells_len]; omega)]
  have h4 := splice_spec (cells k G) (cells o F) (cells k (fun i => F (o + i))) (cells (m - o - k) (fun i => F (o + k + i))) (by simp [cells_len])
  rw [cells_len, ← h0] at h4
  rw [h4]
  apply List.ext_getElem?
  intro i
  by_cases h1 : i < o
  · rw [cells_get (by omega), List.append_assoc, List.getElem?_append_left (by rw [cells_len]; exact h1), cells_get h1]
    simp only [show ¬ (o ≤ i ∧ i < o + k) by omega, if_false]
  · by_cases h2 : i < o + k
    · rw [cells_get (by omega), List.append_assoc, List.getElem?_append_right (by rw [cells_len]; omega), cells_len, List.getElem?_append_left (by rw [cells_len]; omega), cells_get (by omega)]
      simp only [show (o ≤ i ∧ i < o + k) by omega]; simp
    · rw [List.append_assoc, List.getElem?_append_right (by rw [cells_len]; omega), cells_len, List.getElem?_append_right (by rw [cells_len]; omega), cells_len]
      by_cases h3 : i < m
      · rw [cells_get h3, cells_get (by omega)]
        simp only [show ¬ (o ≤ i ∧ i < o + k) by omega, if_false, show o + k + (i - o - k) = i by omega]
      · rw [List.getElem?_eq_none (by rw [cells_len]; omega), List.getElem?_eq_none (by rw [cells_len]; omega)]

theorem allGe_of {m : Nat} : ∀ {L : List Blk}, (∀ e ∈ L, m ≤ e.b) → allGe m L
  | [], _ => trivial
  | e :: _, h => ⟨h e List.mem_cons_self, allGe_of fun f hf => h f (List.mem_cons_of_mem _ hf)⟩
theorem Own.mono {m0 m1 : Nat} {e : TypeId} {v : Value} {xs : List Value} (h : Own m0 e v xs Lx) (hm : m1 ≤ m0) : Own m1 e v xs Lx := by
  rcases h with h | ⟨b, cap, sp, h1, h2, h3, h4⟩
  · exact .inl h
  · exact .inr ⟨b, cap, sp, h1, by omega, h3, h4⟩
theorem Own.congr {m0 : Nat} {e : TypeId} {v : Value} {xs ys : List Value} (h : Own m0 e v xs Lx) (he : xs = ys) : Own m0 e v ys Lx := he ▸ h
theorem Own.some {m0 : Nat} {e : TypeId} {v : Value} {xs : List Value} (h : Own m0 e v xs Lx) (hx : 0 < xs.length) : ∃ b cap sp, v = .slice (some ⟨b, 0, none⟩) xs.length cap ∧ m0 ≤ b ∧ xs.length + sp.length = cap ∧ Lx = [⟨b, e, xs ++ sp⟩] := by
  rcases h with ⟨_, rfl, _⟩ | h
  · simp at hx
  · exact h
theorem Mem.swap {w0 w : World} {X Y : List Blk} (h : Mem w0 w (X ++ Y)) : Mem w0 w (Y ++ X) where
  os := h.os
  tape := h.tape
  output := h.output
  size := h.size
  old := fun k hk hne => h.old k hk (fun e he => hne e (by simpa [or_comm] using he))
  have_ := fun e he => h.have_ e (by simpa [or_comm] using he)
  nodup := ((List.perm_append_comm (l₁ := X) (l₂ := Y)).map (fun x : Blk => x.b)).nodup_iff.1 h.nodup
theorem Own.rdFront {m0 : Nat} {e : TypeId} {v : Value} {m : Nat} {F : Nat → Value} (h : Own m0 e v (cells m F) Lx) (hM : Mem w0 w (Lx ++ L)) : Rd w v m F := h.rdCells hM.swap

theorem cells_snoc {m : Nat} {F : Nat → Value} : cells m F ++ [F m] = cells (m + 1) F := by unfold cells; rw [List.range_succ, List.map_append]; rfl
theorem cells_append {m k : Nat} {F G : Nat → Value} : cells m F ++ cells k G = cells (m + k) (fun i => if i < m then F i else G (i - m)) := by
  apply List.ext_getElem?
  intro i
  by_cases h1 : i < m
  · rw [List.getElem?_append_left (by rw [cells_len]; exact h1), cells_get h1, cells_get (by omega), if_pos h1]
  · rw [List.getElem?_append_right (by rw [cells_len]; omega), cells_len]
    by_cases h2 : i < m + k
    · rw [cells_get (by omega), cells_get h2, if_neg h1]
    · rw [List.getElem?_eq_none (by rw [cells_len]; omega), List.getElem?_eq_none (by rw [cells_len]; omega)]

/-- A call that hands back a slice of its own, and leaves all memory that was there as it was. -/
structure Fresh (P : Program) (f : FuncId) (args : Array Value) (w : World) (el : TypeId) (xs : List Value) : Prop where
  ok : callable P f = true
  calls : Calls P f args w fun e w' => ∃ v Lx, e = .returned v ∧ Own w.heap.size el v xs Lx ∧ Mem w w' Lx

theorem Mem.growX {w0 w w' : World} {L B : List Blk} (h : Mem w0 w L) (g : Mem w w' B) (hn : ∀ e ∈ B, w.heap.size ≤ e.b) : Mem w0 w' (B ++ L) where
  os := g.os.trans h.os
  tape := g.tape.trans h.tape
  output := g.output.trans h.output
  size := Nat.le_trans h.size g.size
  old := by
    intro k hk hne
    rw [g.old k (Nat.lt_of_lt_of_le hk h.size) (fun e he => by have h1 := hn e he; have h2 := h.size; omega)]
    exact h.old k hk (fun e he => hne e (List.mem_append_right _ he))
  have_ := by
    intro e he
    rcases List.mem_append.1 he with he | he
    · exact g.have_ e he
    · rw [g.old e.b (h.lt he) (fun f hf => by have h1 := hn f hf; have h2 := h.lt he; omega)]
      exact h.have_ e he
  nodup := by
    rw [List.map_append, List.nodup_append]
    refine ⟨g.nodup, h.nodup, ?_⟩
    intro x hx y hy hxy
    obtain ⟨e, he, rfl⟩ := List.mem_map.1 hx
    obtain ⟨f, hf, rfl⟩ := List.mem_map.1 hy
    have h1 := hn e he
    have h2 := h.lt hf
    omega

theorem s_fresh {f : FuncId} {xs : List Operand} {ats : Array TypeId} {vs : List Value} {d : Nat} {el : TypeId} {cs : List Value} (hS : Slots a n E) (hM : Mem w0 w L) (hd : d < n) (hx : evs E xs = some vs) (hc : Fresh P f vs.toArray w el cs)
    (h : ∀ a w v Lx, Own w0.heap.size el v cs Lx → Slots a n (put E d v) → Mem w0 w (Lx ++ L) → wpList P ops Q rest a w) : wpList P ops Q (⟨some d, .call ⟨.value (.func f), xs.toArray, ats⟩, ty, pos, af, none⟩ :: rest) a w :=
  s_call hc.ok hS hd hx hc.calls (by
    rintro e w' ⟨v, Lx, rfl, ho, hm⟩
    exact ⟨v, rfl, fun a hS => h a w' v Lx (ho.mono hM.size) hS (hM.growX hm ho.ge)⟩)
theorem Mem.forget {w0 w : World} {X L : List Blk} (h : Mem w0 w (X ++ L)) (hb : ∀ e ∈ X, w0.heap.size ≤ e.b) : Mem w0 w L := h.swap.dropRight hb

/-- A whole block, as a slice. -/
theorem rd_row {b t m j : Nat} {F : Nat → Value} (hM : Mem w0 w L) (hj : L[j]? = some ⟨b, t, cells m F⟩) : Rd w (.slice (some ⟨b, 0, none⟩) m m) m F :=
  Rd.of_mem hM hj (Nat.le_refl _) (fun i hi => by rw [Nat.zero_add]; exact cells_get hi)

/-- The row of one element that was made last. -/
theorem row1 {b t : Nat} {x : Value} (hM : Mem w0 w (⟨b, t, [x]⟩ :: L)) : Rd w (.slice (some ⟨b, 0, none⟩) 1 1) 1 (fun _ => x) :=
  Rd.of_mem (j := 0) hM rfl (Nat.le_refl _) (fun i hi => by have : i = 0 := by omega
                                                            subst this; rfl)

/-- A bool is laid, and the ways part by it. -/
theorem s_valb {o : Oper} {d : Nat} {b : Bool} (hS : Slots a n E) (hd : d < n) (ho : o.dst = some d) (hg : o.guard = none) (hr : Run P a o w (.bool b))
    (ht : b = true → ∀ a, Slots a n (put E d (.bool true)) → wpList P ops Q rest a w) (hf : b = false → ∀ a, Slots a n (put E d (.bool false)) → wpList P ops Q rest a w) : wpList P ops Q (o :: rest) a w := by
  refine s_val hS hd ho hg hr ?_
  cases b
  · exact hf rfl
  · exact ht rfl
theorem s_valgb {o : Oper} {d j dj : Nat} {b c : Bool} {oj : Oper} (hS : Slots a n E) (hd : d < n) (ho : o.dst = some d) (hg : o.guard = some (j, c)) (hj : ops[j]? = some oj) (hdj : oj.dst = some dj) (hb : E dj = some (.bool c)) (hr : Run P a o w (.bool b))
    (ht : b = true → ∀ a, Slots a n (put E d (.bool true)) → wpList P ops Q rest a w) (hf : b = false → ∀ a, Slots a n (put E d (.bool false)) → wpList P ops Q rest a w) : wpList P ops Q (o :: rest) a w := by
  refine s_valg hS hd ho hg hj hdj hb hr ?_
  cases b
  · exact hf rfl
  · exact ht rfl

/-- Equal numbers. -/
theorem b_eqlUt {t : TypeId} {x y : BitVec 64} (h : x = y) : binOp .eql t (U x) (U y) = pure (.bool true) := by rw [b_eqlU, decide_eq_true h]
theorem b_eqlBt {t : TypeId} {x y : BitVec 8} (h : x = y) : binOp .eql t (B x) (B y) = pure (.bool true) := by rw [b_eqlB, decide_eq_true h]
theorem b_eqlNt {t : TypeId} {x y : Nat} (h : x = y) : binOp .eql t (N x) (N y) = pure (.bool true) := by rw [b_eqlN, decide_eq_true h]
theorem r_eqlUt {t t' e : TypeId} {x y : Operand} {m : Nat} {f h : Nat → BitVec 64} (hS : Slots a n E) (hx : ev E x = some (.agg (cU m f).toArray)) (hy : ev E y = some (.agg (cU m h).toArray))
    (hq : P.eqGuardType P.depth t = false) (ht : P.underlying t = some (.array m e)) (he : P.underlying e = some (.int .u64)) (hsz : (P.info? e).map (·.size) = some 1) (hf : ∀ i, i < m → f i = h i) : Run P a ⟨dst, .binOp .eql t x y t', ty, pos, af, g⟩ w (.bool true) := by
  have := r_eqlU (dst := dst) (ty := ty) (pos := pos) (af := af) (g := g) (w := w) (t' := t') hS hx hy hq ht he hsz
  rwa [eqR_true hf] at this
theorem r_eqlBt {t t' e : TypeId} {x y : Operand} {m : Nat} {f h : Nat → BitVec 8} (hS : Slots a n E) (hx : ev E x = some (.agg (cB m f).toArray)) (hy : ev E y = some (.agg (cB m h).toArray))
    (hq : P.eqGuardType P.depth t = false) (ht : P.underlying t = some (.array m e)) (he : P.underlying e = some (.int .u8)) (hsz : (P.info? e).map (·.size) = some 1) (hf : ∀ i, i < m → f i = h i) : Run P a ⟨dst, .binOp .eql t x y t', ty, pos, af, g⟩ w (.bool true) := by
  have := r_eqlB (dst := dst) (ty := ty) (pos := pos) (af := af) (g := g) (w := w) (t' := t') hS hx hy hq ht he hsz
  rwa [eqR_true hf] at this
theorem r_eqbt {t t' : TypeId} {x y : Operand} {b c : Bool} (hS : Slots a n E) (hx : ev E x = some (.bool b)) (hy : ev E y = some (.bool c)) (hT : P.underlying t = some .bool) (h : b = c) : Run P a ⟨dst, .binOp .eql t x y t', ty, pos, af, g⟩ w (.bool true) := by
  have := r_eqb (dst := dst) (ty := ty) (pos := pos) (af := af) (g := g) (w := w) (t' := t') hS hx hy hT
  rw [h] at this
  simpa using this

end
end Go.Sym
