/-
  append(s, make([]byte, n)...): a slice of its own, longer by zeros.
-/
import Derived.Test.YtfojllcccncdbaaSymSlice
namespace Go.Sym
open Go Go.RowKit

section
variable {P : Program} {Q : Exit → Act → World → Prop} {a : Act} {w w0 w1 : World} {n : Nat} {E : Nat → Option Value} {L Lx : List Blk} {ops : Array Oper} {rest : List Oper}
variable {dst : Option Nat} {ty : TypeId} {pos : String} {af : Array Edge} {g : Option (Nat × Bool)}

def zs (z : Value) (m : Nat) : List Value := (Builtin.zeroCells z.cells m).toList

set_option linter.unusedSimpArgs false in
theorem own_appendZ {t tx e : TypeId} {z v : Value} {bytes m : Nat} {xs : List Value} (he : ElemOk P t e z bytes) (htx : P.underlying tx = some (.int .i64)) (hz1 : ∀ u ∈ zs z m, u.oneCell' = true) (hM : Mem w0 w (L ++ Lx)) (ho : Own w0.heap.size e v xs Lx) (hn : xs.length + m ≤ 1099511627776) :
    ∃ v' w' Lx', (Builtin.append_ #[t, tx] ty #[v, N m]).run P w = .ok v' w' ∧ Own w0.heap.size e v' (xs ++ zs z m) Lx' ∧ Mem w0 w' (L ++ Lx') := by
  obtain ⟨i, hi⟩ : ∃ i, P.info? e = some i := by
    cases h : P.info? e with
    | none => have := he.hi; rw [h] at this; cases this
    | some i => exact ⟨i, rfl⟩
  have hh := he.hi
  rw [hi] at hh
  simp only [Option.map_some, Option.some.injEq, Prod.mk.injEq] at hh
  obtain ⟨hz, h1, hby⟩ := hh
  have hb8 := he.hb
  have hzc : ∀ k, (Builtin.zeroCells z.cells k).size = k := fun k => by rw [size_zeroCells, he.hz, Nat.mul_one]
  have hml : (zs z m).length = m := Eq.trans Array.length_toList (hzc _)
  have hbm : m * i.bytes ≤ m * 8 := Nat.mul_le_mul_left _ (by omega)
  have wr : IntKind.i64.wrap (m : Int) = (m : Int) := wrapZ _ (by omega)
  have w00 : IntKind.i64.wrap 0 = 0 := wrapZ 0 (by omega)
  have ng : ¬ ((m : Int) < 0) := by omega
  have big : ¬ ((281474976710656 : Int) < (m : Int) * (i.bytes : Int)) := by
    have : ((m * i.bytes : Nat) : Int) ≤ ((m * 8 : Nat) : Int) := Int.ofNat_le.2 hbm
    rw [Int.natCast_mul] at this
    omega
  have fits : ∀ old, old < xs.length + m → Builtin.nextslicecap (xs.length + m) old * i.bytes ≤ 281474976710656 := fun old hlt => growslice_fits hlt (by
    have : (xs.length + m) * i.bytes ≤ (xs.length + m) * 8 := Nat.mul_le_mul_left _ (by omega)
    omega)
  have grow : ∀ (base : Option Addr) (cap : Nat), v = .slice base xs.length cap → cap < xs.length + m → (Builtin.firstCells 1 xs.length (.slice base xs.length cap)).run P w.drew = .ok xs.toArray w.drew →
      ∃ v' w' Lx', (Builtin.append_ #[t, tx] ty #[v, N m]).run P w = .ok v' w' ∧ Own w0.heap.size e v' (xs ++ zs z m) Lx' ∧ Mem w0 w' (L ++ Lx') := by
    intro base cap hv hlt hold
    subst hv
    have h48 := fits cap hlt
    have hn' : ¬ (xs.length + m ≤ cap) := by omega
    have h63' : ¬ (9223372036854775807 < ((xs.length : Int) + (m : Int))) := by omega
    have h48' : ¬ (281474976710656 < Builtin.nextslicecap (xs.length + m) cap * i.bytes) := by omega
    have e0 : m = 0 → (Builtin.zeroCells z.cells m) = #[] := fun h => by
      have := hzc m
      rw [h] at this ⊢
      exact Array.eq_empty_of_size_eq_zero this
    have hr : (Builtin.append_ #[t, tx] ty #[.slice base xs.length cap, N m]).run P w =
        .ok (.slice (some ⟨w.heap.size, 0, none⟩) (xs.length + m) (grownCap w (xs.length + m) cap e))
          (w.drew.alloc (.cells ((xs ++ zs z m).toArray ++ Builtin.zeroCells z.cells (grownCap w (xs.length + m) cap e - (xs.length + m))) e)) := by
      by_cases hm0 : m = 0
      · have := e0 hm0
        subst hm0
        have hn2 : ¬ xs.length ≤ cap := by omega
        have h632 : ¬ (9223372036854775807 < (xs.length : Int)) := by omega
        have h482 : ¬ (281474976710656 < Builtin.nextslicecap xs.length cap * i.bytes) := by simpa using h48'
        simp [hn2, h632, h482, Builtin.append_, N, asInt, asIntOf, w00, wr, ng, big, run_underlying he.ht, run_underlying htx, sizeOf, typeInfo, zeroValue, hi, hz, h1, hn', h63', h48', Question.forced, hold, newRow, grownCap, zs, this]
      · simp [Builtin.append_, N, asInt, asIntOf, w00, wr, ng, big, run_underlying he.ht, run_underlying htx, sizeOf, typeInfo, zeroValue, hi, hz, h1, hn', h63', h48', Question.forced, hold, newRow, grownCap, zs, hm0]
        congr 2
        apply Array.ext'
        simp [List.append_assoc]
    have hge := grownCap_ge w (xs.length + m) cap e
    have hL : Mem w0 w.drew L := (hM.dropRight ho.ge).drew
    have hA := hL.allocR e ((xs ++ zs z m) ++ (Builtin.zeroCells z.cells (grownCap w (xs.length + m) cap e - (xs.length + m))).toList)
    refine ⟨_, _, _, hr, .inr ⟨w.heap.size, grownCap w (xs.length + m) cap e, (Builtin.zeroCells z.cells (grownCap w (xs.length + m) cap e - (xs.length + m))).toList, ?_, hM.size, ?_, rfl⟩, ?_⟩
    · rw [List.length_append, hml]
    · have h4 : (Builtin.zeroCells z.cells (grownCap w (xs.length + m) cap e - (xs.length + m))).toList.length = grownCap w (xs.length + m) cap e - (xs.length + m) := Eq.trans Array.length_toList (hzc _)
      rw [List.length_append, hml, h4]; omega
    · have e1 : ((xs ++ zs z m).toArray ++ Builtin.zeroCells z.cells (grownCap w (xs.length + m) cap e - (xs.length + m))) = ((xs ++ zs z m) ++ (Builtin.zeroCells z.cells (grownCap w (xs.length + m) cap e - (xs.length + m))).toList).toArray := by
        apply Array.ext'
        simp
      rw [e1]
      exact hA
  rcases ho with ⟨rfl, rfl, rfl⟩ | ⟨b, cap, sp, rfl, hb, hc, rfl⟩
  · by_cases hm : m = 0
    · subst hm
      have hnews : zs z 0 = [] := List.eq_nil_of_length_eq_zero hml
      rw [hnews]
      refine ⟨.slice none 0 0, w, [], ?_, .inl ⟨rfl, rfl, rfl⟩, hM⟩
      simp [Builtin.append_, N, asInt, asIntOf, w00, wrapZ 0 (by omega), run_underlying he.ht, run_underlying htx, sizeOf, typeInfo, hi, h1]
    · exact grow none 0 rfl (by simp; omega) (run_firstCells_none w.drew 1 0 0 0)
  · by_cases hroom : xs.length + m ≤ cap
    · have hj : (L ++ [⟨b, e, xs ++ sp⟩])[L.length]? = some ⟨b, e, xs ++ sp⟩ := by simp
      obtain ⟨w', hst, hM'⟩ := storeCells_run (P := P) (zs z m) (xs ++ sp) xs.length 0 w hM hj hz1 (by rw [List.length_append, hml]; omega)
      have hsp : splice (xs ++ sp) (xs.length + 0) (zs z m) = xs ++ zs z m ++ sp.drop m := by
        have h2 : xs ++ sp = xs ++ sp.take m ++ sp.drop m := by rw [List.append_assoc, List.take_append_drop]
        rw [h2, Nat.add_zero]
        exact splice_spec (zs z m) xs (sp.take m) (sp.drop m) (by rw [List.length_take, hml]; omega)
      rw [hsp, setAt_last] at hM'
      refine ⟨.slice (some ⟨b, 0, none⟩) (xs.length + m) cap, w', _, ?_, .inr ⟨b, cap, sp.drop m, by rw [List.length_append, hml], hb, by rw [List.length_append, hml, List.length_drop]; omega, rfl⟩, hM'⟩
      by_cases hm0 : m = 0
      · have e0 : zs z m = [] := List.eq_nil_of_length_eq_zero (by rw [hml, hm0])
        rw [e0] at hst
        subst hm0
        have hr2 : xs.length ≤ cap := by omega
        simp [hr2, Builtin.append_, N, asInt, asIntOf, w00, wr, ng, big, run_underlying he.ht, run_underlying htx, sizeOf, typeInfo, zeroValue, hi, hz, h1, hroom, Addr.add_lit, hst]
      · have hst' : (storeCells ⟨b, xs.length, none⟩ (Builtin.zeroCells z.cells m).toList 0).run P w = .ok () w' := hst
        simp [Builtin.append_, N, asInt, asIntOf, w00, wr, ng, big, run_underlying he.ht, run_underlying htx, sizeOf, typeInfo, zeroValue, hi, hz, h1, hroom, Addr.add_lit, hst', hm0]
    · have hj : (L ++ [⟨b, e, xs ++ sp⟩])[L.length]? = some ⟨b, e, xs ++ sp⟩ := by simp
      refine grow _ cap rfl (by omega) (run_firstCells_some w.drew 1 xs.length _ _ _ xs (by rw [Nat.mul_one]) (fun j u hu => ?_))
      have hjl : j < xs.length := (List.getElem?_eq_some_iff.1 hu).1
      rw [Addr.add_lit, Nat.zero_add, hM.drew.cell hj, List.getElem?_append_left hjl]
      exact hu

theorem s_appendZ {t tx e : TypeId} {z v : Value} {bytes m d : Nat} {xs : List Value} {x y : Operand} (hS : Slots a n E) (L : List Blk) (hM : Mem w0 w (L ++ Lx)) (hd : d < n) (hx : ev E x = some v) (hy : ev E y = some (N m)) (he : ElemOk P t e z bytes) (htx : P.underlying tx = some (.int .i64)) (hz1 : ∀ u ∈ zs z m, u.oneCell' = true)
    (ho : Own w0.heap.size e v xs Lx) (hn : xs.length + m ≤ 1099511627776)
    (h : ∀ a w v Lx, Own w0.heap.size e v (xs ++ zs z m) Lx → Slots a n (put E d v) → Mem w0 w (L ++ Lx) → wpList P ops Q rest a w) : wpList P ops Q (⟨some d, .call ⟨.builtin .append, #[x, y], #[t, tx]⟩, ty, pos, af, none⟩ :: rest) a w := by
  obtain ⟨v', w', Lx', hr, ho', hM'⟩ := own_appendZ (P := P) (ty := ty) he htx hz1 hM ho hn
  exact s_op hS hd rfl rfl (by simp [execOp, resolve, invoke, builtin, hS.eval hx, hS.eval hy, hr]) (fun a hS => h a _ _ _ ho' hS hM')
theorem zs_B (m : Nat) : zs (B 0#8) m = cB m (fun _ => 0#8) := by
  have h : (B 0#8).cells = #[B 0#8] := rfl
  unfold zs cB cells
  rw [h]
  apply List.ext_getElem?
  intro i
  simp [Builtin.zeroCells, Nat.mod_one]
end
end Go.Sym
