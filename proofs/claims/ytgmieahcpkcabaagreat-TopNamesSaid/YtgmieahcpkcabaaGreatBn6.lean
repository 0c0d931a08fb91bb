import Derived.Test.YtgmieahcpkcabaaGreatBn5
import Derived.Test.YtgmieahcpkcabaaGreatBn2
import Derived.Deep.AppendSrc
import Derived.LoopN
import Derived.Scope
import Derived.Test.YtgmieahcpkcabaaGreatBn3
namespace Go.Sym
open Go Go.RowKit
section
variable {P : Program} {Q : Exit → Act → World → Prop} {a : Act} {w w0 w1 : World} {n : Nat} {E : Nat → Option Value} {L Lx : List Blk} {ops : Array Oper} {rest : List Oper}
variable {dst : Option Nat} {ty : TypeId} {pos : String} {af : Array Edge} {g : Option (Nat × Bool)}
def zs (z : Value) (m : Nat) : List Value := (Builtin.zeroCells z.cells m).toList
set_option linter.unusedSimpArgs false in
theorem own_appendZ {t tx e : TypeId} {z v : Value} {bytes m : Nat} {xs : List Value} (he : ElemOk P t e z bytes) (htx : P.underlying tx = some (.int .i64)) (hz1 : ∀ u ∈ zs z m, u.oneCell' = true) (hM : Mem w0 w (L ++ Lx)) (ho : Own w0.heap.size e v xs Lx) (hn : xs.length + m ≤ 1099511627776) :
    ∃ v' w' Lx', (Builtin.append_ #[t, tx] ty #[v, N m]).run P w = .ok v' w' ∧ Own w0.heap.size e v' (xs ++ zs z m) Lx' ∧ Mem w0 w' (L ++ Lx') := by
  obtain ⟨i, hi⟩ : ∃ i, P.info? e = some i := by
    cases h : P.info? e with
    | none => have := he.hi; rw [h] at this; cases this
    | some i => exact ⟨i, rfl⟩
  have hh := he.hi
  rw [hi] at hh
  simp only [Option.map_some, Option.some.injEq, Prod.mk.injEq] at hh
  obtain ⟨hz, h1, hby⟩ := hh
  have hb8 := he.hb
  have hzc : ∀ k, (Builtin.zeroCells z.cells k).size = k := fun k => by rw [size_zeroCells, he.hz, Nat.mul_one]
  have hml : (zs z m).length = m := Eq.trans Array.length_toList (hzc _)
  have hbm : m * i.bytes ≤ m * 8 := Nat.mul_le_mul_left _ (by omega)
  have wr : IntKind.i64.wrap (m : Int) = (m : Int) := wrapZ _ (by omega)
  have w00 : IntKind.i64.wrap 0 = 0 := wrapZ 0 (by omega)
  have ng : ¬ ((m : Int) < 0) := by omega
  have big : ¬ ((281474976710656 : Int) < (m : Int) * (i.bytes : Int)) := by
    have : ((m * i.bytes : Nat) : Int) ≤ ((m * 8 : Nat) : Int) := Int.ofNat_le.2 hbm
    rw [Int.natCast_mul] at this
    omega
  have fits : ∀ old, old < xs.length + m → Builtin.nextslicecap (xs.length + m) old * i.bytes ≤ 281474976710656 := fun old hlt => growslice_fits hlt (by
    have : (xs.length + m) * i.bytes ≤ (xs.length + m) * 8 := Nat.mul_le_mul_left _ (by omega)
    omega)
  have grow : ∀ (base : Option Addr) (cap : Nat), v = .slice base xs.length cap → cap < xs.length + m → (Builtin.firstCells 1 xs.length (.slice base xs.length cap)).run P w.drew = .ok xs.toArray w.drew →
      ∃ v' w' Lx', (Builtin.append_ #[t, tx] ty #[v, N m]).run P w = .ok v' w' ∧ Own w0.heap.size e v' (xs ++ zs z m) Lx' ∧ Mem w0 w' (L ++ Lx') := by
    intro base cap hv hlt hold
    subst hv
    have h48 := fits cap hlt
    have hn' : ¬ (xs.length + m ≤ cap) := by omega
    have h63' : ¬ (9223372036854775807 < ((xs.length : Int) + (m : Int))) := by omega
    have h48' : ¬ (281474976710656 < Builtin.nextslicecap (xs.length + m) cap * i.bytes) := by omega
    have e0 : m = 0 → (Builtin.zeroCells z.cells m) = #[] := fun h => by
      have := hzc m
      rw [h] at this ⊢
      exact Array.eq_empty_of_size_eq_zero this
    have hr : (Builtin.append_ #[t, tx] ty #[.slice base xs.length cap, N m]).run P w =
        .ok (.slice (some ⟨w.heap.size, 0, none⟩) (xs.length + m) (grownCap w (xs.length + m) cap e))
          (w.drew.alloc (.cells ((xs ++ zs z m).toArray ++ Builtin.zeroCells z.cells (grownCap w (xs.length + m) cap e - (xs.length + m))) e)) := by
      by_cases hm0 : m = 0
      · have := e0 hm0
        subst hm0
        have hn2 : ¬ xs.length ≤ cap := by omega
        have h632 : ¬ (9223372036854775807 < (xs.length : Int)) := by omega
        have h482 : ¬ (281474976710656 < Builtin.nextslicecap xs.length cap * i.bytes) := by simpa using h48'
        simp [hn2, h632, h482, Builtin.append_, N, asInt, asIntOf, w00, wr, ng, big, run_underlying he.ht, run_underlying htx, sizeOf, typeInfo, zeroValue, hi, hz, h1, hn', h63', h48', Question.forced, hold, newRow, grownCap, zs, this]
      · simp [Builtin.append_, N, asInt, asIntOf, w00, wr, ng, big, run_underlying he.ht, run_underlying htx, sizeOf, typeInfo, zeroValue, hi, hz, h1, hn', h63', h48', Question.forced, hold, newRow, grownCap, zs, hm0]
        congr 2
        apply Array.ext'
        simp [List.append_assoc]
    have hge := grownCap_ge w (xs.length + m) cap e
    have hL : Mem w0 w.drew L := (hM.dropRight ho.ge).drew
    have hA := hL.allocR e ((xs ++ zs z m) ++ (Builtin.zeroCells z.cells (grownCap w (xs.length + m) cap e - (xs.length + m))).toList)
    refine ⟨_, _, _, hr, .inr ⟨w.heap.size, grownCap w (xs.length + m) cap e, (Builtin.zeroCells z.cells (grownCap w (xs.length + m) cap e - (xs.length + m))).toList, ?_, hM.size, ?_, rfl⟩, ?_⟩
    · rw [List.length_append, hml]
    · have h4 : (Builtin.zeroCells z.cells (grownCap w (xs.length + m) cap e - (xs.length + m))).toList.length = grownCap w (xs.length + m) cap e - (xs.length + m) := Eq.trans Array.length_toList (hzc _)
      rw [List.length_append, hml, h4]; omega
    · have e1 : ((xs ++ zs z m).toArray ++ Builtin.zeroCells z.cells (grownCap w (xs.length + m) cap e - (xs.length + m))) = ((xs ++ zs z m) ++ (Builtin.zeroCells z.cells (grownCap w (xs.length + m) cap e - (xs.length + m))).toList).toArray := by
        apply Array.ext'
        simp
      rw [e1]
      exact hA
  rcases ho with ⟨rfl, rfl, rfl⟩ | ⟨b, cap, sp, rfl, hb, hc, rfl⟩
  · by_cases hm : m = 0
    · subst hm
      have hnews : zs z 0 = [] := List.eq_nil_of_length_eq_zero hml
      rw [hnews]
      refine ⟨.slice none 0 0, w, [], ?_, .inl ⟨rfl, rfl, rfl⟩, hM⟩
      simp [Builtin.append_, N, asInt, asIntOf, w00, wrapZ 0 (by omega), run_underlying he.ht, run_underlying htx, sizeOf, typeInfo, hi, h1]
    · exact grow none 0 rfl (by simp; omega) (run_firstCells_none w.drew 1 0 0 0)
  · by_cases hroom : xs.length + m ≤ cap
    · have hj : (L ++ [⟨b, e, xs ++ sp⟩])[L.length]? = some ⟨b, e, xs ++ sp⟩ := by simp
      obtain ⟨w', hst, hM'⟩ := storeCells_run (P := P) (zs z m) (xs ++ sp) xs.length 0 w hM hj hz1 (by rw [List.length_append, hml]; omega)
      have hsp : splice (xs ++ sp) (xs.length + 0) (zs z m) = xs ++ zs z m ++ sp.drop m := by
        have h2 : xs ++ sp = xs ++ sp.take m ++ sp.drop m := by rw [List.append_assoc, List.take_append_drop]
        rw [h2, Nat.add_zero]
        exact splice_spec (zs z m) xs (sp.take m) (sp.drop m) (by rw [List.length_take, hml]; omega)
      rw [hsp, setAt_last] at hM'
      refine ⟨.slice (some ⟨b, 0, none⟩) (xs.length + m) cap, w', _, ?_, .inr ⟨b, cap, sp.drop m, by rw [List.length_append, hml], hb, by rw [List.length_append, hml, List.length_drop]; omega, rfl⟩, hM'⟩
      by_cases hm0 : m = 0
      · have e0 : zs z m = [] := List.eq_nil_of_length_eq_zero (by rw [hml, hm0])
        rw [e0] at hst
        subst hm0
        have hr2 : xs.length ≤ cap := by omega
        simp [hr2, Builtin.append_, N, asInt, asIntOf, w00, wr, ng, big, run_underlying he.ht, run_underlying htx, sizeOf, typeInfo, zeroValue, hi, hz, h1, hroom, Addr.add_lit, hst]
      · have hst' : (storeCells ⟨b, xs.length, none⟩ (Builtin.zeroCells z.cells m).toList 0).run P w = .ok () w' := hst
        simp [Builtin.append_, N, asInt, asIntOf, w00, wr, ng, big, run_underlying he.ht, run_underlying htx, sizeOf, typeInfo, zeroValue, hi, hz, h1, hroom, Addr.add_lit, hst', hm0]
    · have hj : (L ++ [⟨b, e, xs ++ sp⟩])[L.length]? = some ⟨b, e, xs ++ sp⟩ := by simp
      refine grow _ cap rfl (by omega) (run_firstCells_some w.drew 1 xs.length _ _ _ xs (by rw [Nat.mul_one]) (fun j u hu => ?_))
      have hjl : j < xs.length := (List.getElem?_eq_some_iff.1 hu).1
      rw [Addr.add_lit, Nat.zero_add, hM.drew.cell hj, List.getElem?_append_left hjl]
      exact hu
end
end Go.Sym
namespace Go.Ev
open Go Go.Sym Go.RowKit
set_option linter.unusedSectionVars false
variable [Vl]
variable {P : Program} {I : Info} {bs bs' : Nm} {s : Fr} {ρ : Env} {a : Act} {n : Nat} {w w' : World} {h h' : Hp} {v : V}
variable {dst : Option Nat} {ty : TypeId} {pos : String} {af : Array Edge} {g : Option (Nat × Bool)}
structure Sl (P : Program) (w : World) (bs : Nm) (k m : Nat) (l : List C) (u : Value) : Prop where
  ex : ∃ ad c, u = .slice ad m c ∧ m ≤ c ∧ (ad = none → c = 0)
  cells : ∃ vs : List Value, CsR bs l vs ∧ vs.length = m * k ∧ ∀ n, n ≤ m → (Builtin.firstCells k n u).run P w = .ok (vs.take (n * k)).toArray w ∧ (Builtin.firstCells k n u).run P w.drew = .ok (vs.take (n * k)).toArray w.drew
theorem sl_of (hR : HR w bs h) {k m : Nat} {l : List C} {x : V} {u : Value} (hv : VR bs x u) (hm : lenV x = some m) (hc : contents h k x = some l) : Sl P w bs k m l u := by
  unfold contents at hc
  split at hc
  · cases hc
    cases hm
    have hu : u = .slice none 0 0 := hv
    subst hu
    refine ⟨⟨none, 0, rfl, Nat.le_refl _, fun _ => rfl⟩, [], trivial, by simp, fun n hn => ?_⟩
    have : n = 0 := by omega
    subst this
    exact ⟨by simp [Builtin.firstCells], by simp [Builtin.firstCells]⟩
  · cases hc
    cases hm
    obtain ⟨b, off, c, rfl⟩ := hv
    refine ⟨⟨some ⟨b, off, none⟩, c, rfl, Nat.zero_le _, fun e => nomatch e⟩, [], trivial, by simp, fun n hn => ?_⟩
    have : n = 0 := by omega
    subst this
    rw [List.take_nil]
    exact ⟨run_firstCells_some w k 0 _ 0 c [] (by simp) (fun j v hv => by simp at hv), run_firstCells_some w.drew k 0 _ 0 c [] (by simp) (fun j v hv => by simp at hv)⟩
  · rename_i id off len cap
    have hm' : len = m := Option.some.inj hm
    subst hm'
    obtain ⟨b, hb, hc⟩ := Option.bind_eq_some_iff.1 hc
    obtain ⟨hle, rfl⟩ := bcond hc
    have hle := ble_le hle
    obtain ⟨q, c, hq, h1, _, _, rfl⟩ := hv
    obtain ⟨vs, h2, h3⟩ := hR.cells hb hq (len * k) off hle
    have hlen : vs.length = len * k := by rw [h2.len, rd_len]
    refine ⟨⟨some ⟨q, off, none⟩, c, rfl, h1, fun e => nomatch e⟩, vs, h2, hlen, fun n hn => ?_⟩
    have hnk : n * k ≤ len * k := Nat.mul_le_mul_right k hn
    have ht : (vs.take (n * k)).length = n * k := by rw [List.length_take]; omega
    have hcell : ∀ j u, (vs.take (n * k))[j]? = some u → w.cell? ((⟨q, off, none⟩ : Addr).add j) = some u := fun j u hu => by
      rw [List.getElem?_take] at hu
      split at hu
      · rw [Addr.add_lit]; exact h3 j u hu
      · cases hu
    exact ⟨run_firstCells_some w k n _ len c _ ht hcell, run_firstCells_some w.drew k n _ len c _ ht (by simpa using hcell)⟩
  · cases hc
theorem do_copy (hI : IOk P I) (hE : ER bs ρ a) (hR : HR w bs h) {t t' : TypeId} {x y : Operand} {nid : Nat} (he : op1 I ρ h nid (.call ⟨.builtin .copy, #[x, y], #[t, t']⟩) = some (v, h')) :
    Does P ⟨dst, .call ⟨.builtin .copy, #[x, y], #[t, t']⟩, ty, pos, af, g⟩ a w (After w bs h v h') := by
  simp only [op1] at he
  split at he
  case h_2 => cases he
  rename_i e e' d src ht ht' hx hy
  split at he
  case h_2 => cases he
  rename_i k hs
  have hsz := hI.sz e k hs
  unfold cpy at he
  split at he
  case h_2 => cases he
  rename_i m l hm hl
  have hsl := sl_of (P := P) hR (hE _ _ hy) hm hl
  obtain ⟨⟨ad, c, hu, _, _⟩, vs, h1, h2, h3⟩ := hsl
  have hv := hE _ _ hx
  split at he
  · rename_i id off len cap
    split at he
    case h_2 => cases he
    rename_i b hg
    obtain ⟨hb, he⟩ := bcond he
    cases he
    simp only [Bool.and_eq_true, Bool.not_eq_true'] at hb
    have hle := ble_le hb.1
    obtain ⟨q, c', hq, _, _, _, hv'⟩ := hv
    obtain ⟨cs, c1, c2, c3, c4, c5⟩ := hR.at hg hq hb.2
    have hnm : Nat.min m len ≤ m := Nat.min_le_left _ _
    have hnk : Nat.min m len * k ≤ m * k := Nat.mul_le_mul_right k hnm
    have htk : (vs.take (Nat.min m len * k)).length = Nat.min m len * k := by rw [List.length_take]; omega
    have hCs := h1.take (Nat.min m len * k)
    have hll : (l.take (Nat.min m len * k)).length = Nat.min m len * k := by rw [← hCs.len, htk]
    obtain ⟨w', r1, r2⟩ := storeCells_run (P := P) (vs.take (Nat.min m len * k)) cs off 0 w (Mem.start c1) (j := 0) rfl hCs.one (by omega)
    have r2' : Mem w w' [⟨q, b.t, splice cs off (vs.take (Nat.min m len * k))⟩] := by simpa [setAt] using r2
    obtain ⟨hR', hM'⟩ := hR.store hg hq hCs (by omega) c2 c3 c4 c5 r2'
    obtain ⟨f1, _⟩ := h3 _ hnm
    refine .inl ⟨.int .i64 (Nat.min m len : Nat), w', .inl ?_, bs, hR', hM', rfl⟩
    rw [hu] at f1
    simp only [execOp, resolve, invoke, builtin]
    simp [hv', hu, Builtin.copy_, run_underlying (hI.td _ _ ht), Go.Sym.run_sizeOf hsz, Builtin.lenOf, f1, r1, goInt]
  · cases he
    have hv' : a.eval x = .slice none 0 0 := hv
    obtain ⟨f1, _⟩ := h3 0 (Nat.zero_le _)
    refine .inl ⟨.int .i64 0, w, .inl ?_, bs, hR, Mv.refl _ _ _, rfl⟩
    rw [hu] at f1
    simp only [execOp, resolve, invoke, builtin]
    simp [hv', hu, Builtin.copy_, run_underlying (hI.td _ _ ht), Go.Sym.run_sizeOf hsz, Builtin.lenOf, f1, goInt]
  · cases he
theorem Sl.src {k m : Nat} {l : List C} {u : Value} {t e : TypeId} (h : Sl P w bs k m l u) (ht : P.underlying t = some (.slice e)) : ∃ vs : List Value, CsR bs l vs ∧ Src P k t u m vs w := by
  obtain ⟨⟨ad, c, hu, _, _⟩, vs, h1, h2, h3⟩ := h
  obtain ⟨f1, f2⟩ := h3 m (Nat.le_refl _)
  rw [List.take_of_length_le (by omega)] at f1 f2
  exact ⟨vs, h1, .inl ⟨e, ht⟩, fun _ => by rw [hu]; rfl, f1, f2, h2, h1.one⟩
theorem Ext.drew (w : World) : Ext w w.drew := ⟨rfl, rfl, rfl, Nat.le_refl _, fun _ _ => rfl⟩
theorem Ext.trans {w w1 w2 : World} (h : Ext w w1) (h' : Ext w1 w2) : Ext w w2 := ⟨h'.os.trans h.os, h'.tape.trans h.tape, h'.output.trans h.output, Nat.le_trans h.size h'.size, fun k hk => (h'.old k (Nat.lt_of_lt_of_le hk h.size)).trans (h.old k hk)⟩
theorem TR.app {l : List C} {vs rest : List Value} (hl : CsR bs l vs) (h14 : l.length ≤ 16384) : TR bs (ofList l) l.length (vs ++ rest) := fun j hj => by
  obtain ⟨u, h1, h2⟩ := TR.of_list hl h14 j hj
  exact ⟨u, by rw [List.getElem?_append_left (List.getElem?_eq_some_iff.1 h1).1]; exact h1, h2⟩
theorem do_grow (hI : IOk P I) (hR : HR w bs h) {t t' e e' : TypeId} {k n m : Nat} {z : T C} {l l2 : List C} {u uy : Value} {base : Option Addr} {cap : Nat} (ht : P.underlying t = some (.slice e)) (ht' : P.underlying t' = some (.slice e')) (hs : I.sz e = some (k + 1)) (hz : I.zc e = some z)
    (hu : u = .slice base n cap) (ha : Sl P w bs (k + 1) n l u) (hb : Sl P w bs (k + 1) m l2 uy) (hlt : cap < n + m) (hn : ((⟨h.h, h.nx + 1⟩ : Hp).new h.nx ⟨e, (n + m) * (k + 1), ofList (l ++ l2), false, k + 1⟩) = some h') :
    ∃ u' w' bs', (Builtin.append_ #[t, t'] ty #[u, uy]).run P w = .ok u' w' ∧ HR w' bs' h' ∧ Mv w w' bs bs' h h' ∧ VR bs' (.c (.sl h.nx 0 (n + m) none)) u' := by
  obtain ⟨hid, h14, rfl⟩ := Hp.new_ok hn
  have h14' : (n + m) * (k + 1) ≤ 16384 := h14
  obtain ⟨i, zv, h1, h2, cs, h3, h4, h5⟩ := hI.zc e z (k + 1) hz hs
  have hsz : i.size = k + 1 := by have := hI.sz e _ hs; rw [h1] at this; simpa using this
  have hby := hI.by_ e _ i hs h1
  obtain ⟨vs, hvs, hsrc⟩ := ha.src ht
  obtain ⟨vs2, hvs2, hsrc2⟩ := hb.src ht'
  have hnm : n + m ≤ 16384 := Nat.le_trans (Nat.le_mul_of_pos_right _ (Nat.succ_pos k)) h14'
  have hfit : Builtin.nextslicecap (n + m) cap * i.bytes ≤ 281474976710656 := growslice_fits hlt (by
    have : (n + m) * i.bytes ≤ 16384 * 1048576 := Nat.mul_le_mul hnm hby
    omega)
  subst hu
  have hr := run_append_grow_src (P := P) w t t' ty e i zv ht h1 h2 base n cap vs (by rw [hsz]; exact hsrc.cellsD) uy m vs2 (by rw [hsz]; exact hsrc2) hlt (by omega) hfit
  have hge := grownCap_ge w (n + m) cap e
  have e1 : ((vs ++ vs2).toArray ++ Builtin.zeroCells zv.cells (grownCap w (n + m) cap e - (n + m))) = (vs ++ vs2 ++ (Builtin.zeroCells zv.cells (grownCap w (n + m) cap e - (n + m))).toList).toArray := by
    apply Array.ext'
    simp
  rw [e1] at hr
  have hvl := hsrc.newsLen
  have hvl2 := hsrc2.newsLen
  have hzl : (Builtin.zeroCells zv.cells (grownCap w (n + m) cap e - (n + m))).toList.length = (grownCap w (n + m) cap e - (n + m)) * (k + 1) := by
    rw [Array.length_toList, size_zeroCells, h3, List.size_toArray, h4]
  have hlen : (vs ++ vs2 ++ (Builtin.zeroCells zv.cells (grownCap w (n + m) cap e - (n + m))).toList).length = grownCap w (n + m) cap e * (k + 1) := by
    rw [List.length_append, List.length_append, hvl, hvl2, hzl, ← Nat.add_mul, ← Nat.add_mul]
    congr 1
    omega
  have hll : (l ++ l2).length = (n + m) * (k + 1) := by rw [← (hvs.app hvs2).len, List.length_append, hvl, hvl2, Nat.add_mul]
  obtain ⟨hg, hltk⟩ := alloc_get w.drew (vs ++ vs2 ++ (Builtin.zeroCells zv.cells (grownCap w (n + m) cap e - (n + m))).toList) e
  have hE := (Ext.drew w).trans (alloc_ext w.drew (vs ++ vs2 ++ (Builtin.zeroCells zv.cells (grownCap w (n + m) cap e - (n + m))).toList) e)
  obtain ⟨hn0, hc0⟩ := hR.nx h.nx (Nat.le_refl _)
  have htr : TR bs (ofList (l ++ l2)) ((n + m) * (k + 1)) (vs ++ vs2 ++ (Builtin.zeroCells zv.cells (grownCap w (n + m) cap e - (n + m))).toList) := by
    have := TR.app (rest := (Builtin.zeroCells zv.cells (grownCap w (n + m) cap e - (n + m))).toList) (hvs.app hvs2) (by rw [hll]; exact h14')
    rwa [hll] at this
  have hbr := mk_br (bs := bs) (id := h.nx) (q := some (grownCap w (n + m) cap e)) (b := ⟨e, (n + m) * (k + 1), ofList (l ++ l2), false, k + 1⟩) hg (by rw [hlen]; exact Nat.mul_le_mul_right _ hge) h14 (show _ = _ * _ from hlen) htr (nput_le hn0 hc0)
  obtain ⟨hR', hM'⟩ := hR.made hid hE (Nat.le_refl _) hltk hbr
  exact ⟨_, _, _, hr, hR', hM', w.heap.size, grownCap w (n + m) cap e, nput_self, hge, fun c e => (nomatch e), fun _ _ => nput_selfc, rfl⟩
theorem run_room {t t' e e' : TypeId} {i : TypeInfo} {k off n m c : Nat} {cs vs2 : List Value} {uy : Value} {bt : TypeId} (ht : P.underlying t = some (.slice e)) (h1 : P.info? e = some i) (ht' : P.underlying t' = some (.slice e')) (hsrc : Src P i.size t' uy m vs2 w)
    (hroom : n + m ≤ c) (hk : w.heap[k]? = some (.cells cs.toArray bt (0, 0))) (hle : off + n * i.size + vs2.length ≤ cs.length) :
    ∃ w', (Builtin.append_ #[t, t'] ty #[.slice (some ⟨k, off, none⟩) n c, uy]).run P w = .ok (.slice (some ⟨k, off, none⟩) (n + m) c) w' ∧ Mem w w' [⟨k, bt, splice cs (off + n * i.size) vs2⟩] := by
  obtain ⟨w', r1, r2⟩ := storeCells_run (P := P) vs2 cs (off + n * i.size) 0 w (Mem.start hk) (j := 0) rfl hsrc.one (by omega)
  refine ⟨w', ?_, by simpa [setAt] using r2⟩
  simp [Builtin.append_, run_underlying ht, run_underlying ht', sizeOf, typeInfo, h1, hsrc.len, hroom, hsrc.cells, Addr.add_lit, r1]
theorem do_append (hI : IOk P I) (hE : ER bs ρ a) (hR : HR w bs h) {t t' : TypeId} {x y : Operand} {e e' : TypeId} {p src : V} {k : Nat} {z : T C} (ht : I.td t = some (.slice e)) (ht' : I.td t' = some (.slice e')) (hx : ρ x = some p) (hy : ρ y = some src) (hs : I.sz e = some (k + 1)) (hz : I.zc e = some z)
    (he : app (⟨h.h, h.nx + 1⟩ : Hp) h.nx e (k + 1) p src = some (v, h')) : Does P ⟨dst, .call ⟨.builtin .append, #[x, y], #[t, t']⟩, ty, pos, af, g⟩ a w (After w bs h v h') := by
  have hR1 : HR w bs (⟨h.h, h.nx + 1⟩ : Hp) := hR.later (Nat.le_succ _)
  unfold app at he
  split at he
  case h_2 => cases he
  rename_i n m l l2 hn hm hl hl2
  have ha := sl_of (P := P) hR1 (hE _ _ hx) hn hl
  have hb := sl_of (P := P) hR1 (hE _ _ hy) hm hl2
  have hxv := hE _ _ hx
  have fin : ∀ {u' : Value} {w' : World} {bs' : Nm}, (Builtin.append_ #[t, t'] ty #[a.eval x, a.eval y]).run P w = .ok u' w' → HR w' bs' h' → Mv w w' bs bs' h h' → VR bs' v u' → Does P ⟨dst, .call ⟨.builtin .append, #[x, y], #[t, t']⟩, ty, pos, af, g⟩ a w (After w bs h v h') := fun r1 r2 r3 r4 =>
    .inl ⟨_, _, .inl (by simp [execOp, resolve, invoke, builtin, r1]), _, r2, r3, r4⟩
  obtain ⟨i, zv, h1, h2, _⟩ := hI.zc e z (k + 1) hz hs
  have hsz : i.size = k + 1 := by have := hI.sz e _ hs; rw [h1] at this; simpa using this
  have hT := hI.td _ _ ht
  have hT' := hI.td _ _ ht'
  split at he
  · rename_i id off len c
    have hn' : len = n := Option.some.inj hn
    subst hn'
    obtain ⟨q, c', hq, hlc, hc', _, hu⟩ := hxv
    have := hc' c rfl
    subst this
    rcases bsplit he with he | ⟨hf, he⟩
    · obtain ⟨hroom, he⟩ := bcondO he
      have hroom := ble_le hroom
      split at he
      case h_2 => cases he
      rename_i b hg
      obtain ⟨hb2, he⟩ := bcond he
      cases he
      simp only [Bool.and_eq_true, Bool.not_eq_true'] at hb2
      have hle := ble_le hb2.1
      obtain ⟨vs2, hvs2, hsrc⟩ := hb.src hT'
      obtain ⟨cs, c1, c2, c3, c4, c5⟩ := hR1.at hg hq hb2.2
      have hl2n := hsrc.newsLen
      have hadd : (len + m) * (k + 1) = len * (k + 1) + m * (k + 1) := Nat.add_mul ..
      obtain ⟨w', r1, r2⟩ := run_room (P := P) (ty := ty) (off := off) (n := len) hT h1 hT' (by rw [hsz]; exact hsrc) hroom c1 (by rw [hsz]; omega)
      rw [hsz] at r2
      obtain ⟨hR', hM'⟩ := hR1.store (off := off + len * (k + 1)) hg hq hvs2 (by rw [← hvs2.len]; omega) c2 c3 c4 c5 r2
      rw [← hu] at r1
      have hM0 : Mv w w bs bs h (⟨h.h, h.nx + 1⟩ : Hp) := (Mv.refl w bs h).later (Nat.le_succ _)
      exact fin r1 hR' (hM0.trans hM') ⟨q, c', hq, hroom, fun c e => by cases e; rfl, fun e => (nomatch e), rfl⟩
    · obtain ⟨h3, h4, h5⟩ := Option.map_eq_some_iff.1 he
      cases h5
      have hlt : c' < len + m := by
        rcases Nat.lt_or_ge c' (len + m) with h | h
        · exact h
        · rw [ble_t h] at hf; cases hf
      obtain ⟨u', w', bs', r1, r2, r3, r4⟩ := do_grow (P := P) (ty := ty) hI hR hT hT' hs hz hu ha hb hlt h4
      exact fin r1 r2 r3 r4
  · have hn' : 0 = n := Option.some.inj hn
    subst hn'
    have hu : a.eval x = .slice none 0 0 := hxv
    rcases bsplit he with he | ⟨hf, he⟩
    · obtain ⟨hm0, he⟩ := bcond he
      cases he
      have hm0 := beq_eq hm0
      subst hm0
      obtain ⟨vs2, hvs2, hsrc⟩ := hb.src hT'
      have hM0 : Mv w w bs bs h (⟨h.h, h.nx + 1⟩ : Hp) := (Mv.refl w bs h).later (Nat.le_succ _)
      have hcl := hsrc.cells
      refine fin (u' := .slice none 0 0) (w' := w) ?_ hR1 hM0 rfl
      rw [hu]
      simp [Builtin.append_, run_underlying hT, run_underlying hT', sizeOf, typeInfo, h1, hsrc.len, hsz, hcl]
    · obtain ⟨h3, h4, h5⟩ := Option.map_eq_some_iff.1 he
      cases h5
      have hlt : 0 < 0 + m := by
        rcases Nat.eq_zero_or_pos m with h | h
        · rw [h] at hf; cases hf
        · omega
      obtain ⟨u', w', bs', r1, r2, r3, r4⟩ := do_grow (P := P) (ty := ty) hI hR hT hT' hs hz hu ha hb hlt h4
      exact fin r1 r2 r3 r4
  · rename_i id len
    have hn' : len = n := Option.some.inj hn
    subst hn'
    obtain ⟨q, c, hq, hlc, _, hcc, hu⟩ := hxv
    have hcc := hcc rfl rfl
    rcases bsplit he with he | ⟨hf, he⟩
    · obtain ⟨hm0, he⟩ := bcond he
      cases he
      have hm0 := beq_eq hm0
      subst hm0
      obtain ⟨vs2, hvs2, hsrc⟩ := hb.src hT'
      have hvs0 : vs2 = [] := List.eq_nil_of_length_eq_zero (by rw [hsrc.newsLen, Nat.zero_mul])
      subst hvs0
      have hM0 : Mv w w bs bs h (⟨h.h, h.nx + 1⟩ : Hp) := (Mv.refl w bs h).later (Nat.le_succ _)
      have hcl := hsrc.cells
      refine fin (u' := .slice (some ⟨q, 0, none⟩) len c) (w' := w) ?_ hR1 hM0 ⟨q, c, hq, hlc, fun c e => (nomatch e), fun _ _ => hcc, rfl⟩
      rw [hu]
      simp [Builtin.append_, run_underlying hT, run_underlying hT', sizeOf, typeInfo, h1, hsrc.len, hsz, hcl, hlc, storeCells]
    · split at he
      case h_2 => cases he
      rename_i b hg
      obtain ⟨hb2, he⟩ := bcondO he
      simp only [Bool.and_eq_true, Bool.not_eq_true'] at hb2
      obtain ⟨⟨hb3, hb4⟩, hb5⟩ := hb2
      have hbt := beq_eq hb4
      have hbk := beq_eq hb5
      obtain ⟨h3, h4, h5⟩ := Option.map_eq_some_iff.1 he
      cases h5
      have hid := (hR.dom id q hq).1
      obtain ⟨hid', h14, hput⟩ := Hp.new_ok h4
      by_cases hroom : len + m ≤ c
      · obtain ⟨vs, hvs, hsrc0⟩ := ha.src hT
        obtain ⟨vs2, hvs2, hsrc⟩ := hb.src hT'
        obtain ⟨cs, c1, c2, c3, c4, c5⟩ := hR1.at hg hq hb3
        have hl2n := hsrc.newsLen
        have hcl : cs.length = c * b.ks := by rw [hcc] at c4; exact c4
        rw [hbk] at hcl
        have hadd : (len + m) * (k + 1) = len * (k + 1) + m * (k + 1) := Nat.add_mul ..
        have hcm : (len + m) * (k + 1) ≤ c * (k + 1) := Nat.mul_le_mul_right _ hroom
        obtain ⟨w', r1, r2⟩ := run_room (P := P) (ty := ty) (off := 0) (n := len) hT h1 hT' (by rw [hsz]; exact hsrc) hroom c1 (by rw [hsz]; omega)
        rw [hsz, Nat.zero_add] at r2
        obtain ⟨b2, hg2, hl'⟩ := Option.bind_eq_some_iff.1 hl
        have hbb : b2 = b := Option.some.inj (hg2.symm.trans hg)
        subst hbb
        obtain ⟨hle0, rfl⟩ := bcond hl'
        have hle0 := ble_le hle0
        have hC1 := c5.rd (len * (k + 1)) 0 hle0
        rw [List.drop_zero] at hC1
        have hsp : splice cs (len * (k + 1)) vs2 = (cs.take (len * (k + 1)) ++ vs2) ++ cs.drop (len * (k + 1) + vs2.length) := by
          have h5 : cs = cs.take (len * (k + 1)) ++ (cs.drop (len * (k + 1))).take vs2.length ++ cs.drop (len * (k + 1) + vs2.length) := by
            rw [List.append_assoc, ← List.drop_drop, List.take_append_drop, List.take_append_drop]
          have h6 := splice_spec vs2 (cs.take (len * (k + 1))) ((cs.drop (len * (k + 1))).take vs2.length) (cs.drop (len * (k + 1) + vs2.length)) (by rw [List.length_take, List.length_drop]; omega)
          rw [← h5, List.length_take, Nat.min_eq_left (by omega)] at h6
          exact h6
        have hCC := hC1.app hvs2
        have hll : (Ev.rd b2.cs 0 (len * (k + 1)) ++ l2).length = (len + m) * (k + 1) := by rw [← hCC.len, List.length_append, List.length_take, hl2n, hadd]; omega
        have htr := TR.app (rest := cs.drop (len * (k + 1) + vs2.length)) hCC (by rw [hll]; exact h14)
        rw [hll, ← hsp] at htr
        obtain ⟨hn0, hc0⟩ := hR.nx h.nx (Nat.le_refl _)
        have hbr : BR w' (nput bs h.nx q (some c)) h.nx ⟨e, (len + m) * (k + 1), ofList (Ev.rd b2.cs 0 (len * (k + 1)) ++ l2), false, k + 1⟩ q :=
          ⟨splice cs (len * (k + 1)) vs2, (0, 0), by rw [← hbt]; exact r2.have_ _ (List.mem_singleton.2 rfl), fun _ => rfl, by rw [splice_len, hcl]; exact hcm, h14, by rw [nput_selfc, splice_len]; exact hcl, htr.mono (nput_le hn0 hc0)⟩
        obtain ⟨hR', hM'⟩ := hR.renamed hg hq hid' (Upd.of_mem r2) hbr
        rw [← hu] at r1
        rw [← hput] at hR' hM'
        exact fin r1 hR' hM' ⟨q, c, nput_self, hroom, fun c e => (nomatch e), fun _ _ => nput_selfc, rfl⟩
      · obtain ⟨u', w', bs', r1, r2, r3, r4⟩ := do_grow (P := P) (ty := ty) hI hR hT hT' hs hz hu ha hb (by omega) h4
        exact fin r1 (r2.drop hid) (r3.drop hid) r4
  · cases he
theorem do_appendZ (hI : IOk P I) (hE : ER bs ρ a) (hR : HR w bs h) {t t' : TypeId} {x y : Operand} {e : TypeId} {m : Nat} {z : Int} {c : T C} (ht : I.td t = some (.slice e)) (ht' : I.td t' = some (.int .i64)) (hx : ρ x = some (.c .nils)) (hy : ρ y = some (.c (.int .i64 z))) (hs : I.sz e = some 1) (hz : I.zc e = some c)
    (hm : nat? z = some (m + 1)) (hb : byteT I e = true) (he : ((⟨h.h, h.nx + 1⟩ : Hp).new h.nx ⟨e, m + 1, .lf (c.get 0), false, 1⟩) = some h') :
    Does P ⟨dst, .call ⟨.builtin .append, #[x, y], #[t, t']⟩, ty, pos, af, g⟩ a w (After w bs h (.c (.sl h.nx 0 (m + 1) none)) h') := by
  obtain ⟨i, zv, h1, h2, cs, h3, h4, h5⟩ := hI.zc e c 1 hz hs
  have hsz : i.size = 1 := by have := hI.sz e _ hs; rw [h1] at this; simpa using this
  have hu8 : I.td e = some (.int .u8) := by
    unfold byteT at hb
    split at hb
    · assumption
    · cases hb
  have hby := hI.b1 e i hu8 h1
  have hx' : a.eval x = .slice none 0 0 := hE _ _ hx
  have hy' : a.eval y = .int .i64 z := hE _ _ hy
  rw [nat_some hm] at hy'
  obtain ⟨u0, hu0, hr0⟩ := h5 0 (Nat.succ_pos _)
  have hcs : cs = [u0] := by
    cases cs with
    | nil => simp at h4
    | cons y l =>
      have : l = [] := List.eq_nil_of_length_eq_zero (by simpa using h4)
      subst this
      simp at hu0; rw [hu0]
  have hzc : zv.cells = #[u0] := by rw [h3, hcs]
  have hzs : ∀ k, zs zv k = List.replicate k u0 := fun k => by
    unfold zs
    rw [hzc]
    apply List.ext_getElem?
    intro j
    simp only [Builtin.zeroCells, List.getElem?_replicate]
    by_cases hj : j < k
    · simp [hj, Nat.mod_one]
    · simp [hj]
  have hEl : ElemOk P t e zv i.bytes := ⟨hI.td _ _ ht, by rw [h1]; simp [h2, hsz], by rw [hzc]; rfl, hby⟩
  obtain ⟨hid, h14, rfl⟩ := Hp.new_ok he
  have h14' : m + 1 ≤ 16384 := h14
  obtain ⟨u', w', Lx', r1, r2, r3⟩ := own_appendZ (P := P) (ty := ty) (m := m + 1) (w0 := w) (w := w) (L := []) (Lx := []) hEl (hI.td _ _ ht') (fun u hu => by
    rw [hzs] at hu
    rw [List.eq_of_mem_replicate hu]
    exact (CR.one hr0).1) (Mem.refl w) Own.nil (by simp; omega)
  rcases r2 with ⟨_, hnil, _⟩ | ⟨b, cap, sp, rfl, hb0, hcap, rfl⟩
  · rw [List.nil_append, hzs] at hnil; simp at hnil
  · rw [List.nil_append, hzs, List.length_replicate] at hcap
    rw [List.nil_append, hzs] at r1 r3
    rw [List.length_replicate] at r1
    have hM : Mem w w' [⟨b, e, List.replicate (m + 1) u0 ++ sp⟩] := r3
    have hh := hM.have_ _ (List.mem_singleton.2 rfl)
    have hlen : (List.replicate (m + 1) u0 ++ sp).length = cap := by rw [List.length_append, List.length_replicate]; exact hcap
    obtain ⟨hn0, hc0⟩ := hR.nx h.nx (Nat.le_refl _)
    have htr : TR bs (.lf (c.get 0)) (m + 1) (List.replicate (m + 1) u0 ++ sp) := fun j hj => by
      refine ⟨u0, ?_, ?_⟩
      · rw [List.getElem?_append_left (by rw [List.length_replicate]; exact hj), List.getElem?_replicate, if_pos hj]
      · rw [T.get_lf]; exact hr0.mono (Le.bot _)
    have hbr := mk_br (bs := bs) (id := h.nx) (q := some cap) (b := ⟨e, m + 1, .lf (c.get 0), false, 1⟩) hh (by rw [hlen]; show m + 1 ≤ cap; omega) h14 (show _ = _ * 1 by rw [hlen, Nat.mul_one]) htr (nput_le hn0 hc0)
    obtain ⟨hR', hM'⟩ := hR.made hid (Ext.of_mem1 hM hb0) hb0 (block_lt hh) hbr
    have r1' : (Builtin.append_ #[t, t'] ty #[a.eval x, a.eval y]).run P w = .ok (.slice (some ⟨b, 0, none⟩) (m + 1) cap) w' := by rw [hx', hy']; exact r1
    exact .inl ⟨.slice (some ⟨b, 0, none⟩) (m + 1) cap, w', .inl (by simp [execOp, resolve, invoke, builtin, r1']), _, hR', hM', b, cap, nput_self, by omega, fun c e => (nomatch e), fun _ _ => nput_selfc, rfl⟩
theorem op1_ok (hI : IOk P I) (hE : ER bs ρ a) (hR : HR w bs h) {op : Op} (hst : ∀ t x y, op = .store t x y → dst = none) (he : op1 I ρ (h.nxt op) h.nx op = some (v, h')) : Does P ⟨dst, op, ty, pos, af, g⟩ a w (After w bs h v h') := by
  have hid : ∀ (b : Bool), b = false → (⟨h.h, bif b then h.nx + 1 else h.nx⟩ : Hp) = h := fun b hb => by rw [hb]; rfl
  have pure_ : ∀ {op : Op}, (pop I ρ op).map (fun x => (x, h)) = some (v, h') → Does P ⟨dst, op, ty, pos, af, g⟩ a w (After w bs h v h') := fun hp => by
    obtain ⟨v', h1, h2⟩ := Option.map_eq_some_iff.1 hp
    cases h2
    exact ((pop_ok hI hE h1).rd).does hR
  cases op with
  | load t x =>
    obtain ⟨rfl, h2⟩ := rd_load hI hE hR (show op1 I ρ h h.nx (.load t x) = some (v, h') from he)
    exact h2.does hR
  | store t x y =>
    have := hst t x y rfl
    subst this
    exact do_store hI hE hR (show op1 I ρ h h.nx (.store t x y) = some (v, h') from he)
  | alloc t => exact do_mk hI hE hR he
  | box t x => exact do_mk hI hE hR he
  | buildSlice t n ps => exact do_mk hI hE hR he
  | makeSlice t l c => exact do_mk hI hE hR he
  | convert t d x =>
    have he' : op1 I ρ h h.nx (.convert t d x) = some (v, h') := he
    simp only [op1] at he'
    split at he'
    · rename_i hd
      obtain ⟨v', h1, h2⟩ := Option.map_eq_some_iff.1 he'
      cases h2
      exact (rd_str hI hE hR hd h1).does hR
    · rename_i e hd
      split at he'
      case h_2 => cases he'
      rename_i id off len cap hx
      split at he'
      case h_2 => cases he'
      rename_i e' b ht hg
      obtain ⟨hb, he2⟩ := bcond he'
      cases he2
      rw [Bool.and_eq_true] at hb
      exact do_frz hI hE hR hx hd ht (beq_eq hb.1) hb.2 hg
    · exact pure_ he'
  | call c =>
    obtain ⟨f, ⟨xs⟩, ⟨ts⟩⟩ := c
    cases f with
    | builtin b =>
      cases b with
      | append =>
        rcases xs with _ | ⟨x, _ | ⟨y, _ | ⟨z, xs⟩⟩⟩ <;> rcases ts with _ | ⟨t, _ | ⟨t', _ | ⟨t2, ts⟩⟩⟩ <;> first
          | (simp [op1, pop] at he; done)
          | skip
        have he' : op1 I ρ (⟨h.h, h.nx + 1⟩ : Hp) h.nx (.call ⟨.builtin .append, #[x, y], #[t, t']⟩) = some (v, h') := he
        simp only [op1] at he'
        split at he'
        · rename_i e e' p src ht ht' hx hy
          split at he'
          · rename_i k z hs hz
            exact do_append hI hE hR ht ht' hx hy hs hz he'
          · cases he'
        · rename_i e z ht ht' hx hy
          split at he'
          · rename_i c m hs hz hm
            obtain ⟨hb, he2⟩ := bcondO he'
            rw [Bool.and_eq_true] at hb
            obtain ⟨h3, h4, h5⟩ := Option.map_eq_some_iff.1 he2
            cases h5
            exact do_appendZ hI hE hR ht ht' hx hy hs hz hm hb.1 h4
          · cases he'
        · cases he'
      | copy =>
        rcases xs with _ | ⟨x, _ | ⟨y, _ | ⟨z, xs⟩⟩⟩ <;> rcases ts with _ | ⟨t, _ | ⟨t', _ | ⟨t2, ts⟩⟩⟩ <;> first
          | (simp [op1, pop] at he; done)
          | skip
        exact do_copy hI hE hR (show op1 I ρ h h.nx (.call ⟨.builtin .copy, #[x, y], #[t, t']⟩) = some (v, h') from he)
      | _ => exact pure_ he
    | _ => exact pure_ he
  | _ => exact pure_ he
end Go.Ev
namespace Go.Ev
open Go Go.Sym Go.RowKit
set_option linter.unusedSectionVars false
variable [Vl]
variable {P : Program} {I : Info} {bs bs' : Nm} {s s' : Fr} {ρ : Env} {a : Act} {n : Nat} {w w' : World} {h h' : Hp} {v : V}
variable {dst : Option Nat} {ty : TypeId} {pos : String} {af : Array Edge} {g : Option (Nat × Bool)}
def CallR (P : Program) (f : FuncId) (vs : Array Value) (w : World) (R : Value → World → Prop) : Prop :=
  (∃ v w', (callFunc f vs).run P w = .ok (.value v) w' ∧ R v w') ∨
    ((callFunc f vs).run P w = .ok (.enter f vs) w ∧ Calls P f vs w (fun e w' => ∃ v, e = .returned v ∧ R v w'))
def CallOk (P : Program) (call : FuncId → List V → Hp → Option (V × Hp)) : Prop :=
  ∀ f as h v h', call f as h = some (v, h') → ∀ bs vs w, VsR bs as vs → HR w bs h → CallR P f vs.toArray w (After w bs h v h')
variable {call : FuncId → List V → Hp → Option (V × Hp)}
theorem args_ok (hE : ER bs ρ a) : ∀ {xs : List Operand} {l : List V}, args ρ xs = some l → VsR bs l (xs.map a.eval)
  | [], l, he => by simp only [args, Option.some.injEq] at he; subst he; trivial
  | x :: xs, l, he => by
    simp only [args] at he
    split at he
    · rename_i v l' hv hl
      cases he
      exact ⟨hE _ _ hv, args_ok hE hl⟩
    · cases he
theorem CallR.does {f : FuncId} {vs : Array Value} {R : Value → World → Prop} {o : Oper} (hc : CallR P f vs w R) (ho : execOp a.eval o = callFunc f vs) : Does P o a w R := by
  rcases hc with ⟨v, w', h1, h2⟩ | ⟨h1, h2⟩
  · exact .inl ⟨v, w', .inl (by rw [ho]; exact h1), h2⟩
  · exact .inr ⟨f, vs, by rw [ho]; exact h1, h2⟩
theorem step_ok (hI : IOk P I) (hC : CallOk P call) (hE : ER bs ρ a) (hR : HR w bs h) {o : Oper} (he : step I call ρ h o = some (v, h')) : Does P o a w (After w bs h v h') := by
  obtain ⟨d0, op, ty, pos, af, g⟩ := o
  unfold step at he
  simp only at he
  split at he
  · rename_i f xs ats
    split at he
    case h_2 => cases he
    rename_i g' caps l hf hl
    obtain ⟨cv, hcv, hfv⟩ := hE _ _ hf
    have hargs := (args_ok hE hl).app (capsR.vs hcv)
    refine (hC _ _ _ _ _ he bs _ w hargs hR).does ?_
    have h1 : execOp a.eval ⟨d0, .call ⟨.value f, xs, ats⟩, ty, pos, af, g⟩ = (do let d ← resolve a.eval ⟨.value f, xs, ats⟩ ty; invoke d.target d.args) := rfl
    rw [h1]
    unfold resolve
    simp only [hfv]
    show callFunc g' (#[] ++ xs.map a.eval ++ cv.toArray) = _
    congr 1
    apply Array.ext'
    simp
  · rename_i t x y
    split at he
    · exact op1_ok hI hE hR (op := .store t x y) (fun _ _ _ _ => rfl) he
    · cases he
  · rename_i hns
    exact op1_ok hI hE hR (fun t x y e => absurd e (hns t x y)) he
theorem wanted_gen {o : Oper} {all : List Oper} {b : Bool} (hg : ∀ (j : Nat) (c : Bool) (oj : Oper) (t : Nat) (v : V), o.guard = some (j, c) → all[j]? = some oj → oj.dst = some t → t < 512 → s.get t = some v → ∃ u, a.tmps[t]? = some u ∧ VR bs v u) (he : wanted all s o.guard = some b) : Region.wanted o (yielded all.toArray a.tmps) = b := by
  unfold wanted at he
  split at he
  · rename_i hg
    cases he
    simp [Region.wanted, hg]
  · rename_i j c hgd
    split at he
    case h_2 => cases he
    rename_i o' ho'
    split at he
    case h_2 => cases he
    rename_i d hd
    have hopd : ∀ v, opd s (.tmp d) = some v → ∃ u, a.tmps[d]? = some u ∧ VR bs v u := fun v hv => by
      unfold opd at hv
      obtain ⟨h1, h2⟩ := bcondO hv
      exact hg j c o' d v hgd ho' hd (blt_lt h1) h2
    split at he
    · rename_i b' hv
      cases he
      obtain ⟨u, hu, hr⟩ := hopd _ hv
      have hr' : u = .bool b' := hr
      subst hr'
      simp [Region.wanted, hgd, yielded, ho', hd, hu]
      cases c <;> cases b' <;> rfl
    · rename_i hv
      cases he
      obtain ⟨u, hu, vs, hr, rfl⟩ := hopd _ hv
      cases vs with
      | cons x l => exact hr.elim
      | nil => simp [Region.wanted, hgd, yielded, ho', hd, hu]
    · cases he
theorem wanted_ok (hS : SR bs s a n) {o : Oper} {all : List Oper} {b : Bool} (he : wanted all s o.guard = some b) : Region.wanted o (yielded all.toArray a.tmps) = b :=
  wanted_gen (fun _ _ _ t v _ _ _ ht hv => hS.get t v ht hv) he
theorem Does.wp {o : Oper} {R : Value → World → Prop} {Q : Exit → Act → World → Prop} {K : Act → World → Prop} (hd : Does P o a w R) (hK : ∀ u w', R u w' → K (a.put o.dst u) w') : o.wp P a w K Q := by
  unfold Oper.wp
  rcases hd with ⟨u, w', h1 | ⟨h1, h2, h3⟩, hR⟩ | ⟨f, vs, h1, h2⟩
  · rw [h1]; exact hK u w' hR
  · rw [h1, Oper.upon_skip, ← h3]; exact hK u w' hR
  · rw [h1, Oper.upon_enter]
    refine h2.mono ?_
    rintro e w' ⟨u, rfl, hR⟩
    exact hK u w' hR
theorem ops_ok (hI : IOk P I) (hC : CallOk P call) {all : List Oper} {Q : Exit → Act → World → Prop} : ∀ (l : List Oper) (s : Fr) (h : Hp) (bs : Nm) (a : Act) (w : World), ops I call n all l s h = some (s', h') → SR bs s a n → HR w bs h →
    (∀ a' w' bs', SR bs' s' a' n → HR w' bs' h' → Mv w w' bs bs' h h' → Q .normal a' w') → wpList P all.toArray Q l a w
  | [], s, h, bs, a, w, he, hS, hR, hQ => by
    simp only [ops, Option.some.injEq, Prod.mk.injEq] at he
    obtain ⟨rfl, rfl⟩ := he
    exact hQ a w bs hS hR (Mv.refl _ _ _)
  | o :: r, s, h, bs, a, w, he, hS, hR, hQ => by
    simp only [ops] at he
    unfold wpList
    split at he
    · rename_i hw
      rw [if_pos (wanted_ok hS hw)]
      split at he
      case h_2 => cases he
      rename_i v h1 hst
      split at he
      case h_2 => cases he
      rename_i s1 hp
      refine .inl ((step_ok hI hC hS.env hR hst).wp ?_)
      rintro u w1 ⟨bs1, hR1, hM1, hv1⟩
      exact ops_ok hI hC r s1 h1 bs1 _ w1 he ((hS.mono hM1.le).put hv1 hp) hR1 fun a' w' bs' hS' hR' hM' => hQ a' w' bs' hS' hR' (hM1.trans hM')
    · rename_i hw
      rw [if_neg (by rw [wanted_ok hS hw]; exact Bool.false_ne_true)]
      split at he
      case h_2 => cases he
      rename_i s1 hp
      exact ops_ok hI hC r s1 h bs _ w he (hS.put (v := .tup []) (u := undef) ⟨[], trivial, rfl⟩ hp) hR hQ
    · cases he
end Go.Ev
namespace Go.Sym
open Go Go.RowKit
def frn {α : Type} (k : Nat → α) : Nat → α
  | 0 => k 0
  | n + 1 => k (n + 1)
theorem frn_eq {α : Type} (k : Nat → α) (n : Nat) : frn k n = k n := by cases n <;> rfl
def rmk (acc : List Nat) (k : Nat) : List Edge → Nat
  | [] => 0
  | e :: l => bif Region.binds .any e then (2 ^ e.on ||| acc.getD (k - 1 - e.on) 0) ||| rmk acc k l else rmk acc k l
def rowsF : List Oper → Nat → List Nat → List Nat
  | [], _, acc => acc
  | o :: l, k, acc => frn (fun r => rowsF l (k + 1) (r :: acc)) (rmk acc k o.after.toList)
def rtab (ops : List Oper) : List Nat := rowsF ops 0 []
def rchB (tab : List Nat) (n i j : Nat) : Bool := Nat.testBit (tab.getD (n - 1 - i) 0) j
section
variable {ops : List Oper}
theorem reach_fuel (hl : lexicalB ops = true) : ∀ f g k, k < f → k < g → reach ops f k = reach ops g k
  | 0, _, _, h, _ => absurd h (Nat.not_lt_zero _)
  | _ + 1, 0, _, _, h => absurd h (Nat.not_lt_zero _)
  | f + 1, g + 1, k, h1, h2 => by
    show (match ops[k]? with | none => [] | some o => o.after.toList.flatMap fun e => if Region.binds .any e then e.on :: reach ops f e.on else []) = (match ops[k]? with | none => [] | some o => o.after.toList.flatMap fun e => if Region.binds .any e then e.on :: reach ops g e.on else [])
    cases ho : ops[k]? with
    | none => rfl
    | some o =>
      dsimp only
      have key : ∀ l : List Edge, (∀ e ∈ l, e ∈ o.after) → (l.flatMap fun e => if Region.binds .any e then e.on :: reach ops f e.on else []) = (l.flatMap fun e => if Region.binds .any e then e.on :: reach ops g e.on else []) := by
        intro l
        induction l with
        | nil => intro _; rfl
        | cons e l ih =>
          intro hm
          rw [List.flatMap_cons, List.flatMap_cons, ih (fun e he => hm e (List.mem_cons_of_mem _ he))]
          by_cases hb : Region.binds .any e = true
          · have hlt := lexicalB_spec hl k o ho e (hm e List.mem_cons_self) hb
            rw [if_pos hb, if_pos hb, reach_fuel hl f g e.on (by omega) (by omega)]
          · rw [if_neg hb, if_neg hb]
      exact key _ (fun e he => Array.mem_toList_iff.1 he)
theorem rmk_spec (acc : List Nat) (k j : Nat) : ∀ l : List Edge, (rmk acc k l).testBit j = true ↔ ∃ e ∈ l, Region.binds .any e = true ∧ (j = e.on ∨ (acc.getD (k - 1 - e.on) 0).testBit j = true)
  | [] => by simp [rmk]
  | e :: l => by
    have ih := rmk_spec acc k j l
    show (bif Region.binds .any e then (2 ^ e.on ||| acc.getD (k - 1 - e.on) 0) ||| rmk acc k l else rmk acc k l).testBit j = true ↔ _
    cases hb : Region.binds .any e with
    | false =>
      rw [cond_false, ih]
      constructor
      · rintro ⟨e', he, h⟩; exact ⟨e', List.mem_cons_of_mem _ he, h⟩
      · rintro ⟨e', he, h1, h2⟩
        rcases List.mem_cons.1 he with rfl | he
        · rw [hb] at h1; cases h1
        · exact ⟨e', he, h1, h2⟩
    | true =>
      rw [cond_true, Nat.testBit_or, Nat.testBit_or, Nat.testBit_two_pow, Bool.or_eq_true, Bool.or_eq_true, ih, decide_eq_true_eq]
      constructor
      · rintro ((h | h) | ⟨e', he, h⟩)
        · exact ⟨e, List.mem_cons_self, hb, .inl h.symm⟩
        · exact ⟨e, List.mem_cons_self, hb, .inr h⟩
        · exact ⟨e', List.mem_cons_of_mem _ he, h⟩
      · rintro ⟨e', he, h1, h2⟩
        rcases List.mem_cons.1 he with rfl | he
        · rcases h2 with h2 | h2
          · exact .inl (.inl h2.symm)
          · exact .inl (.inr h2)
        · exact .inr ⟨e', he, h1, h2⟩
def rgood (ops : List Oper) (k : Nat) (acc : List Nat) : Prop := acc.length = k ∧ ∀ i, i < k → ∀ j, (acc.getD (k - 1 - i) 0).testBit j = true ↔ j ∈ reach ops (ops.length + 1) i
theorem rowsF_good (hl : lexicalB ops = true) : ∀ (l : List Oper) (pre : List Oper) (acc : List Nat), ops = pre ++ l → rgood ops pre.length acc → rgood ops ops.length (rowsF l pre.length acc)
  | [], pre, acc, he, hg => by
    rw [List.append_nil] at he
    rw [he] at hg ⊢
    exact hg
  | o :: l, pre, acc, he, hg => by
    show rgood ops ops.length (frn (fun r => rowsF l (pre.length + 1) (r :: acc)) (rmk acc pre.length o.after.toList))
    rw [frn_eq]
    have h1 := rowsF_good hl l (pre ++ [o]) (rmk acc pre.length o.after.toList :: acc) (by rw [he]; simp) (by
      rw [List.length_append]
      refine ⟨by rw [List.length_cons, hg.1]; rfl, fun i hi j => ?_⟩
      show ((rmk acc pre.length o.after.toList :: acc).getD (pre.length + 1 - 1 - i) 0).testBit j = true ↔ _
      have hi' : i < pre.length + 1 := hi
      by_cases h : i = pre.length
      · subst h
        rw [show pre.length + 1 - 1 - pre.length = 0 by omega]
        show (rmk acc pre.length o.after.toList).testBit j = true ↔ _
        rw [rmk_spec]
        have ho : ops[pre.length]? = some o := by rw [he]; simp
        have hlen : pre.length < ops.length := by rw [he]; simp
        show _ ↔ j ∈ (match ops[pre.length]? with | none => [] | some o => o.after.toList.flatMap fun e => if Region.binds .any e then e.on :: reach ops ops.length e.on else [])
        rw [ho]
        dsimp only
        rw [List.mem_flatMap]
        constructor
        · rintro ⟨e, hm, hb, h⟩
          have hlt := lexicalB_spec hl _ o ho e (Array.mem_toList_iff.1 hm) hb
          refine ⟨e, hm, ?_⟩
          rw [if_pos hb]
          rcases h with h | h
          · rw [h]; exact List.mem_cons_self
          · rw [reach_fuel hl ops.length (ops.length + 1) e.on (by omega) (by omega)]
            exact List.mem_cons_of_mem _ ((hg.2 e.on hlt j).1 h)
        · rintro ⟨e, hm, h⟩
          by_cases hb : Region.binds .any e = true
          · have hlt := lexicalB_spec hl _ o ho e (Array.mem_toList_iff.1 hm) hb
            rw [if_pos hb] at h
            refine ⟨e, hm, hb, ?_⟩
            rcases List.mem_cons.1 h with h | h
            · exact .inl h
            · rw [reach_fuel hl ops.length (ops.length + 1) e.on (by omega) (by omega)] at h
              exact .inr ((hg.2 e.on hlt j).2 h)
          · rw [if_neg hb] at h; cases h
      · have hlt : i < pre.length := by omega
        rw [show pre.length + 1 - 1 - i = (pre.length - 1 - i) + 1 by omega]
        exact hg.2 i hlt j)
    rw [List.length_append] at h1
    exact h1
theorem rchB_eq (hl : lexicalB ops = true) {i : Nat} (hi : i < ops.length) (j : Nat) : (reach ops (ops.length + 1) i).contains j = rchB (rtab ops) ops.length i j := by
  have h := (rowsF_good hl ops [] [] rfl ⟨rfl, fun i hi => absurd hi (Nat.not_lt_zero i)⟩).2 i hi j
  rw [Bool.eq_iff_iff, List.contains_iff_mem]
  exact h.symm
variable {P : Program} {Q : Exit → Act → World → Prop} {n : Nat}
end
end Go.Sym
namespace Go.Ev
open Go Go.Sym Go.RowKit
set_option linter.unusedSectionVars false
variable [Vl]
variable {I : Info} {ρ ρ' : Env} {h : Hp} {nid : Nat} {call : FuncId → List V → Hp → Option (V × Hp)}
def Same (ρ ρ' : Env) (l : List Operand) : Prop := ∀ x ∈ l, ρ x = ρ' x
theorem Same.parts {l : List (Nat × Operand)} (hs : ∀ p : Nat × Operand, p ∈ l → ρ p.2 = ρ' p.2) : (l.map fun (i, x) => (i, ρ x)) = l.map fun (i, x) => (i, ρ' x) := by
  apply List.map_congr_left
  rintro ⟨i, x⟩ hp
  show (i, ρ x) = (i, ρ' x)
  rw [hs (i, x) hp]
theorem Same.bnd {x : Option Operand} {d : Nat} (hs : ∀ y, x = some y → ρ y = ρ' y) : bnd ρ d x = bnd ρ' d x := by
  cases x with
  | none => rfl
  | some y => simp only [Ev.bnd]; rw [hs y rfl]
theorem Same.args {l : List Operand} (hs : Same ρ ρ' l) : args ρ l = args ρ' l := by
  induction l with
  | nil => rfl
  | cons x l ih => simp only [Ev.args]; rw [hs x List.mem_cons_self, ih fun y hy => hs y (List.mem_cons_of_mem _ hy)]
theorem pop_congr {op : Op} (hs : Same ρ ρ' op.operands.toList) : pop I ρ op = pop I ρ' op := by
  cases op with
  | move x => exact hs x (by simp [Op.operands])
  | assign x => exact hs x (by simp [Op.operands])
  | pick c x y =>
    simp only [pop]
    rw [hs c (by simp [Op.operands]), hs x (by simp [Op.operands]), hs y (by simp [Op.operands])]
  | build t ps =>
    simp only [pop]
    rw [Same.parts fun p hp => hs p.2 (by simp only [Op.operands, List.mem_map]; exact ⟨p, hp, rfl⟩)]
  | nilCheck x => simp only [pop]; rw [hs x (by simp [Op.operands])]
  | binOp op t x y t' => simp only [pop]; rw [hs x (by simp [Op.operands]), hs y (by simp [Op.operands])]
  | unOp op t x => simp only [pop]; rw [hs x (by simp [Op.operands])]
  | convert s d x => simp only [pop]; rw [hs x (by simp [Op.operands])]
  | sliceToArrayPointer t x => simp only [pop]; rw [hs x (by simp [Op.operands])]
  | makeFunc f first cs =>
    cases f with
    | func f =>
      obtain ⟨l⟩ := first
      cases l with
      | nil =>
        simp only [pop]
        have : (cs.toList.mapM fun x => (ρ x).bind capOf) = cs.toList.mapM fun x => (ρ' x).bind capOf := by
          have hs' : Same ρ ρ' cs.toList := fun x hx => hs x (by simpa [Op.operands] using hx)
          generalize cs.toList = l at hs'
          induction l with
          | nil => rfl
          | cons x l ih => simp only [List.mapM_cons]; rw [hs' x List.mem_cons_self, ih fun y hy => hs' y (List.mem_cons_of_mem _ hy)]
        rw [this]
      | cons x l => rfl
    | _ => rfl
  | slice t x lo hi mx =>
    simp only [pop]
    have hl : ∀ d, bnd ρ d lo = bnd ρ' d lo := fun d => Same.bnd fun y e => hs y (by subst e; simp [Op.operands])
    have hh : ∀ d, bnd ρ d hi = bnd ρ' d hi := fun d => Same.bnd fun y e => hs y (by subst e; simp [Op.operands])
    have hm : bnd3 ρ mx = bnd3 ρ' mx := by
      cases mx with
      | none => rfl
      | some y => simp only [bnd3]; rw [hs y (by simp [Op.operands])]
    rw [hs x (by simp [Op.operands]), hm]
    simp only [hl, hh]
  | fieldAddr t x f => simp only [pop]; rw [hs x (by simp [Op.operands])]
  | field t x f => simp only [pop]; rw [hs x (by simp [Op.operands])]
  | indexAddr t x y => simp only [pop]; rw [hs x (by simp [Op.operands]), hs y (by simp [Op.operands])]
  | index t x y => simp only [pop]; rw [hs x (by simp [Op.operands]), hs y (by simp [Op.operands])]
  | extract x i => simp only [pop]; rw [hs x (by simp [Op.operands])]
  | call c =>
    obtain ⟨f, ⟨xs⟩, ⟨ts⟩⟩ := c
    cases f with
    | builtin b =>
      have hs' : Same ρ ρ' xs := fun x hx => hs x (by simpa [Op.operands, Call.operands] using hx)
      cases b with
      | len => rcases xs with _ | ⟨x, _ | ⟨y, xs⟩⟩ <;> rcases ts with _ | ⟨t, _ | ⟨t', ts⟩⟩ <;> first | rfl | (simp only [pop]; rw [hs' x (by simp)])
      | cap => rcases xs with _ | ⟨x, _ | ⟨y, xs⟩⟩ <;> rcases ts with _ | ⟨t, _ | ⟨t', ts⟩⟩ <;> first | rfl | (simp only [pop]; rw [hs' x (by simp)])
      | min => rcases xs with _ | ⟨x, _ | ⟨y, _ | ⟨z, xs⟩⟩⟩ <;> first | rfl | (simp only [pop]; rw [hs' x (by simp), hs' y (by simp)])
      | max => rcases xs with _ | ⟨x, _ | ⟨y, _ | ⟨z, xs⟩⟩⟩ <;> first | rfl | (simp only [pop]; rw [hs' x (by simp), hs' y (by simp)])
      | _ => rfl
    | _ => rfl
  | _ => rfl
theorem mk_congr {op : Op} (hs : Same ρ ρ' op.operands.toList) : mk I ρ op = mk I ρ' op := by
  cases op with
  | box t x => simp only [mk]; rw [hs x (by simp [Op.operands])]
  | buildSlice t n ps =>
    simp only [mk]
    rw [Same.parts fun p hp => hs p.2 (by simp only [Op.operands, List.mem_map]; exact ⟨p, hp, rfl⟩)]
  | makeSlice t l c => simp only [mk]; rw [hs l (by simp [Op.operands]), hs c (by simp [Op.operands])]
  | _ => rfl
theorem op1_congr {op : Op} (hs : Same ρ ρ' op.operands.toList) : op1 I ρ h nid op = op1 I ρ' h nid op := by
  cases op with
  | load t x => simp only [op1]; rw [hs x (by simp [Op.operands])]
  | convert s d x => simp only [op1]; rw [hs x (by simp [Op.operands]), pop_congr hs]
  | store t x y => simp only [op1]; rw [hs x (by simp [Op.operands]), hs y (by simp [Op.operands])]
  | alloc t => rfl
  | box t x => simp only [op1]; rw [mk_congr hs]
  | buildSlice t n ps => simp only [op1]; rw [mk_congr hs]
  | makeSlice t l c => simp only [op1]; rw [mk_congr hs]
  | call c =>
    obtain ⟨f, ⟨xs⟩, ⟨ts⟩⟩ := c
    cases f with
    | builtin b =>
      have hs' : Same ρ ρ' xs := fun x hx => hs x (by simpa [Op.operands, Call.operands] using hx)
      cases b with
      | append => rcases xs with _ | ⟨x, _ | ⟨y, _ | ⟨z, xs⟩⟩⟩ <;> rcases ts with _ | ⟨t, _ | ⟨t', _ | ⟨t2, ts⟩⟩⟩ <;> first | rfl | (simp only [op1]; rw [hs' x (by simp), hs' y (by simp)])
      | copy => rcases xs with _ | ⟨x, _ | ⟨y, _ | ⟨z, xs⟩⟩⟩ <;> rcases ts with _ | ⟨t, _ | ⟨t', _ | ⟨t2, ts⟩⟩⟩ <;> first | rfl | (simp only [op1]; rw [hs' x (by simp), hs' y (by simp)])
      | _ => first | rfl | (simp only [op1]; rw [pop_congr hs])
    | _ => rfl
  | _ => first | rfl | (simp only [op1]; rw [pop_congr hs])
theorem step_congr {o : Oper} (hs : Same ρ ρ' o.op.operands.toList) : step I call ρ h o = step I call ρ' h o := by
  obtain ⟨d0, op, ty, pos, af, g⟩ := o
  cases op with
  | call c =>
    obtain ⟨f, ⟨xs⟩, ⟨ts⟩⟩ := c
    cases f with
    | value f =>
      have hs' : Same ρ ρ' (f :: xs) := fun x hx => hs x (by simpa [Op.operands, Call.operands] using hx)
      simp only [step]
      rw [hs' f List.mem_cons_self, Same.args fun x hx => hs' x (List.mem_cons_of_mem _ hx)]
    | _ => simp only [step]; exact op1_congr hs
  | store t x y =>
    cases d0 with
    | none => simp only [step]; exact op1_congr hs
    | some d => rfl
  | _ => simp only [step]; exact op1_congr hs
def kindN (I : Info) : Op → Bool
  | .move _ | .assign _ | .pick _ _ _ | .build _ _ | .nilCheck _ | .binOp _ _ _ _ _ | .unOp _ _ _ | .sliceToArrayPointer _ _ | .makeFunc _ _ _ | .slice _ _ _ _ _ | .fieldAddr _ _ _ | .field _ _ _ | .indexAddr _ _ _ | .index _ _ _ | .extract _ _ => true
  | .convert _ d _ => match I.td d with
    | some (.int _) => true
    | _ => false
  | .call ⟨.builtin .len, _, _⟩ | .call ⟨.builtin .cap, _, _⟩ | .call ⟨.builtin .min, _, _⟩ | .call ⟨.builtin .max, _, _⟩ => true
  | _ => false
def kindR (I : Info) : Op → Bool
  | .load _ _ => true
  | .convert _ d _ => match I.td d with
    | some .string => true
    | _ => false
  | _ => false
theorem kindN_ok {op : Op} (hk : kindN I op = true) : op1 I ρ h nid op = (pop I ρ op).map (·, h) := by
  cases op with
  | convert s d x =>
    simp only [kindN] at hk
    split at hk
    · rename_i k hd
      simp only [op1]
      rw [hd]
    · cases hk
  | call c =>
    obtain ⟨f, ⟨xs⟩, ⟨ts⟩⟩ := c
    cases f with
    | builtin b => cases b <;> first | rfl | (simp [kindN] at hk)
    | _ => simp [kindN] at hk
  | _ => first | rfl | (simp [kindN] at hk)
end Go.Ev
namespace Go.Ev
open Go Go.Sym Go.RowKit
set_option linter.unusedSectionVars false
variable [Vl]
variable {P : Program} {I : Info} {n base : Nat} {all : List Oper} {ks0 : List K} {call : FuncId → List V → Hp → Option (V × Hp)} {sF : Fr} {h : Hp}
def cntM : List K → Nat
  | [] => 0
  | .m _ :: r => cntM r + 1
  | _ :: r => cntM r
def Val (sF : Fr) (o : Oper) (v : V) : Prop := ∀ d, o.dst = some d → sF.get d = some v
def PF (I : Info) (all : List Oper) (ks0 : List K) (sF : Fr) (x : Nat × Bl) : Prop := ∃ (i : Nat) (o : Oper) (qq : Option (Nat × Nat)), ks0[i]? = some (K.f x.1) ∧ all[i]? = some o ∧ mk I (opd sF) o.op = some (qq, x.2)
def OLook (o : Oper) (t : Nat) : Prop := Operand.tmp t ∈ o.op.operands.toList
def FrAt (all : List Oper) (s0 sF : Fr) (i : Nat) (o : Oper) (s1 : Fr) : Prop := ∀ t, OLook o t → t < 512 → ((∀ (k : Nat) o', all[k]? = some o' → o'.dst = some t → k < i) → s1.get t = sF.get t) ∧ (∀ (k : Nat) o', all[k]? = some o' → o'.dst = some t → i ≤ k → s1.get t = s0.get t)
def FactK (I : Info) (call : FuncId → List V → Hp → Option (V × Hp)) (base : Nat) (all : List Oper) (ks0 : List K) (s0 sF : Fr) (hs : List Hp) (p i : Nat) (o : Oper) : K → Prop
  | .n => (wanted all sF o.guard = some true ∧ ∃ v s1 H h', hs[p]? = some H ∧ op1 I (opd s1) H 0 o.op = some (v, h') ∧ Val sF o v ∧ FrAt all s0 sF i o s1) ∨ (wanted all sF o.guard = some false ∧ Val sF o (.tup []))
  | .m js => ∃ H Hj H' pd pd', hs[p]? = some H ∧ hs[p + 1]? = some H' ∧ (∀ x ∈ pd, PF I all ks0 sF x) ∧ joinL base js pd H = some (pd', Hj) ∧
      ((wanted all sF o.guard = some true ∧ ∃ v, step I call (opd sF) Hj o = some (v, H') ∧ Val sF o v) ∨ (wanted all sF o.guard = some false ∧ H' = Hj ∧ Val sF o (.tup [])))
  | .f q => ∃ qq b, mk I (opd sF) o.op = some (qq, b) ∧ base + q < 4096 ∧ b.len ≤ 16384 ∧ Val sF o (mkV (base + q) qq)
  | _ => (wanted all sF o.guard = some true ∧ ∃ v H h', hs[p]? = some H ∧ op1 I (opd sF) H 0 o.op = some (v, h') ∧ Val sF o v) ∨ (wanted all sF o.guard = some false ∧ Val sF o (.tup []))
theorem FactK.up {hs : List Hp} {s0 : Fr} {H0 : Hp} {p i : Nat} {o : Oper} {k : K} (hf : FactK I call base all ks0 s0 sF hs p i o k) : FactK I call base all ks0 s0 sF (H0 :: hs) (p + 1) i o k := by
  cases k with
  | m js => exact hf
  | f q => exact hf
  | n => exact hf
  | r lo hi => exact hf
def GLook (all : List Oper) (o : Oper) (t : Nat) : Prop := ∃ j b oj, o.guard = some (j, b) ∧ all[j]? = some oj ∧ oj.dst = some t
theorem opd_same {s s' : Fr} {l : List Operand} (hs : ∀ t, Operand.tmp t ∈ l → t < 512 → s.get t = s'.get t) : Same (opd s) (opd s') l := fun x hx => by
  cases x with
  | tmp t =>
    by_cases ht : t < 512
    · simp only [opd]; rw [hs t hx ht]
    · simp only [opd]; rw [blt_f ht]; rfl
  | const v => rfl
  | global g => rfl
  | func f => rfl
theorem wanted_same {s s' : Fr} {g : Option (Nat × Bool)} (hs : ∀ t j b oj, g = some (j, b) → all[j]? = some oj → oj.dst = some t → t < 512 → s.get t = s'.get t) : wanted all s g = wanted all s' g := by
  cases g with
  | none => rfl
  | some p =>
    obtain ⟨j, b⟩ := p
    simp only [wanted]
    cases hj : all[j]? with
    | none => rfl
    | some oj =>
      simp only
      cases hd : oj.dst with
      | none => rfl
      | some t =>
        simp only
        have : opd s (.tmp t) = opd s' (.tmp t) := by
          by_cases ht : t < 512
          · simp only [opd]; rw [hs t j b oj rfl hj hd ht]
          · simp only [opd]; rw [blt_f ht]; rfl
        rw [this]
theorem putD_get {s s' : Fr} {d : Option Nat} {v : V} (hn : n ≤ 512) (hp : putD n s d v = some s') : (∀ t, t < 512 → d ≠ some t → s'.get t = s.get t) ∧ ∀ t, d = some t → t < n ∧ s'.get t = some v := by
  unfold putD at hp
  cases d with
  | none => cases hp; exact ⟨fun t _ _ => rfl, fun t h => nomatch h⟩
  | some d =>
    obtain ⟨hb, rfl⟩ := bcond hp
    have hd := blt_lt hb
    refine ⟨fun t ht hne => ?_, fun t e => ?_⟩
    · have := T.get_set 9 s d t (some v) (show d < 512 by omega) ht
      rw [show DF = 9 from rfl, this, if_neg (fun e => hne (by rw [e]))]
    · cases e
      have := T.get_set 9 s d d (some v) (show d < 512 by omega) (show d < 512 by omega)
      exact ⟨hd, by rw [show DF = 9 from rfl, this, if_pos rfl]⟩
theorem look_mem {q : Nat} {b : Bl} : ∀ {pd : List (Nat × Bl)}, look q pd = some b → (q, b) ∈ pd
  | [], h => by simp [look] at h
  | (j, c) :: r, h => by
    simp only [look] at h
    cases hb : Nat.beq q j with
    | true =>
      rw [hb] at h
      cases h
      rw [beq_eq hb]
      exact List.mem_cons_self
    | false => rw [hb] at h; exact List.mem_cons_of_mem _ (look_mem h)
theorem drop_mem {q : Nat} {x : Nat × Bl} : ∀ {pd : List (Nat × Bl)}, x ∈ drop q pd → x ∈ pd
  | [], h => by simp [drop] at h
  | (j, c) :: r, h => by
    simp only [drop] at h
    cases hb : Nat.beq q j with
    | true => rw [hb] at h; exact List.mem_cons_of_mem _ h
    | false =>
      rw [hb] at h
      rcases List.mem_cons.1 h with h | h
      · rw [h]; exact List.mem_cons_self
      · exact List.mem_cons_of_mem _ (drop_mem h)
theorem joinL_mem : ∀ {js : List Nat} {pd pd' : List (Nat × Bl)} {h h' : Hp}, joinL base js pd h = some (pd', h') → ∀ x ∈ pd', x ∈ pd
  | [], pd, pd', h, h', he, x, hx => by simp only [joinL, Option.some.injEq, Prod.mk.injEq] at he; rw [he.1]; exact hx
  | j :: js, pd, pd', h, h', he, x, hx => by
    simp only [joinL] at he
    split at he
    · exact drop_mem (joinL_mem he x hx)
    · cases he
def Inv1 (I : Info) (call : FuncId → List V → Hp → Option (V × Hp)) (base : Nat) (all : List Oper) (s : Fr) (h h1 : Hp) (pd pd1 : List (Nat × Bl)) (hs hs1 : List Hp) (o : Oper) (v : V) : K → Prop
  | .m js => ∃ Hj, joinL base js pd h = some (pd1, Hj) ∧ hs = h :: hs1 ∧ ((wanted all s o.guard = some true ∧ step I call (opd s) Hj o = some (v, h1)) ∨ (wanted all s o.guard = some false ∧ v = .tup [] ∧ h1 = Hj))
  | .f q => hs = hs1 ∧ h1 = h ∧ ∃ qq b, mk I (opd s) o.op = some (qq, b) ∧ base + q < 4096 ∧ b.len ≤ 16384 ∧ v = mkV (base + q) qq ∧ pd1 = (q, b) :: pd
  | _ => hs = hs1 ∧ h1 = h ∧ pd1 = pd ∧ ((wanted all s o.guard = some true ∧ ∃ h', op1 I (opd s) h 0 o.op = some (v, h')) ∨ (wanted all s o.guard = some false ∧ v = .tup []))
theorem opsD_cons {o : Oper} {r : List Oper} {k : K} {ks : List K} {s : Fr} {pd : List (Nat × Bl)} {hs : List Hp} {hF : Hp} {pF : List (Nat × Bl)} (he : opsD I call n base all (o :: r) (k :: ks) s h pd = some (sF, hs, hF, pF)) :
    ∃ s1 v h1 pd1 hs1, putD n s o.dst v = some s1 ∧ opsD I call n base all r ks s1 h1 pd1 = some (sF, hs1, hF, pF) ∧ Inv1 I call base all s h h1 pd pd1 hs hs1 o v k := by
  have plain : (match wanted all s o.guard with
    | some true => match op1 I (opd s) h 0 o.op with
      | some (v, _) => match putD n s o.dst v with
        | some s' => opsD I call n base all r ks s' h pd
        | none => none
      | none => none
    | some false => match putD n s o.dst (.tup []) with
      | some s' => opsD I call n base all r ks s' h pd
      | none => none
    | none => none) = some (sF, hs, hF, pF) → ∃ s1 v, putD n s o.dst v = some s1 ∧ opsD I call n base all r ks s1 h pd = some (sF, hs, hF, pF) ∧ ((wanted all s o.guard = some true ∧ ∃ h', op1 I (opd s) h 0 o.op = some (v, h')) ∨ (wanted all s o.guard = some false ∧ v = .tup [])) := by
    intro he
    split at he
    · rename_i hw
      split at he
      · rename_i v h' h1
        split at he
        · rename_i s1 hp; exact ⟨s1, v, hp, he, .inl ⟨hw, h', h1⟩⟩
        · cases he
      · cases he
    · rename_i hw
      split at he
      · rename_i s1 hp; exact ⟨s1, _, hp, he, .inr ⟨hw, rfl⟩⟩
      · cases he
    · cases he
  cases k with
  | m js =>
    simp only [opsD] at he
    split at he
    case h_2 => cases he
    rename_i pd' Hj hj
    split at he
    · rename_i hw
      split at he
      case h_2 => cases he
      rename_i v h1 hst
      split at he
      case h_2 => cases he
      rename_i s1 hp
      split at he
      case h_2 => cases he
      rename_i hrun
      cases he
      exact ⟨s1, v, h1, pd', _, hp, hrun, Hj, hj, rfl, .inl ⟨hw, hst⟩⟩
    · rename_i hw
      split at he
      case h_2 => cases he
      rename_i s1 hp
      split at he
      case h_2 => cases he
      rename_i hrun
      cases he
      exact ⟨s1, _, Hj, pd', _, hp, hrun, Hj, hj, rfl, .inr ⟨hw, rfl, rfl⟩⟩
    · cases he
  | f q =>
    simp only [opsD] at he
    split at he
    case h_2 => cases he
    rename_i qq b hm
    obtain ⟨hb, he⟩ := bcondO he
    rw [Bool.and_eq_true] at hb
    split at he
    case h_2 => cases he
    rename_i s1 hp
    exact ⟨s1, _, h, _, hs, hp, he, rfl, rfl, qq, b, hm, blt_lt hb.1, ble_le hb.2, rfl, rfl⟩
  | n =>
    simp only [opsD] at he
    obtain ⟨s1, v, h1, h2, h3⟩ := plain he
    exact ⟨s1, v, h, pd, hs, h1, h2, rfl, rfl, rfl, h3⟩
  | r lo hi =>
    simp only [opsD] at he
    obtain ⟨s1, v, h1, h2, h3⟩ := plain he
    exact ⟨s1, v, h, pd, hs, h1, h2, rfl, rfl, rfl, h3⟩
theorem opsD_frame (hn : n ≤ 512) : ∀ (l : List Oper) (ks : List K) (s : Fr) (h : Hp) (pd : List (Nat × Bl)) (sF : Fr) (hs : List Hp) (hF : Hp) (pF : List (Nat × Bl)), opsD I call n base all l ks s h pd = some (sF, hs, hF, pF) → ∀ d, d < 512 → (∀ o ∈ l, o.dst ≠ some d) → sF.get d = s.get d
  | [], [], s, h, pd, sF, hs, hF, pF, he, d, hd, hno => by
    simp only [opsD, Option.some.injEq, Prod.mk.injEq] at he
    rw [he.1]
  | [], k :: ks, s, h, pd, sF, hs, hF, pF, he, d, hd, hno => by cases k <;> simp [opsD] at he
  | o :: r, [], s, h, pd, sF, hs, hF, pF, he, d, hd, hno => by simp [opsD] at he
  | o :: r, k :: ks, s, h, pd, sF, hs, hF, pF, he, d, hd, hno => by
    obtain ⟨s1, v, h1, pd1, hs1, hp, hrun, _⟩ := opsD_cons he
    rw [opsD_frame hn r ks s1 h1 pd1 sF hs1 hF pF hrun d hd fun o' ho' => hno o' (List.mem_cons_of_mem _ ho'), (putD_get hn hp).1 d hd (hno o List.mem_cons_self)]
theorem opsD_facts (hn : n ≤ 512) (hdst : dstsOk n all = true) (hap : ∀ (i : Nat) (o : Oper), all[i]? = some o → ∀ t, (GLook all o t ∨ (OLook o t ∧ ks0[i]? ≠ some .n)) → ∀ (k : Nat) (o' : Oper), all[k]? = some o' → o'.dst = some t → k < i) (s0 : Fr) :
    ∀ (l : List Oper) (ks : List K) (pre : List Oper) (preK : List K) (s : Fr) (h : Hp) (pd : List (Nat × Bl)) (sF : Fr) (hs : List Hp) (hF : Hp) (pF : List (Nat × Bl)), all = pre ++ l → ks0 = preK ++ ks → pre.length = preK.length → opsD I call n base all l ks s h pd = some (sF, hs, hF, pF) →
    (∀ x ∈ pd, PF I all ks0 sF x) → (∀ t, t < 512 → (∀ o ∈ pre, o.dst ≠ some t) → s.get t = s0.get t) →
    ks.length = l.length ∧ hs.length = cntM ks + 1 ∧ hs[0]? = some h ∧ hs[cntM ks]? = some hF ∧ (∀ x ∈ pF, PF I all ks0 sF x) ∧
    ∀ (i : Nat) o k, l[i]? = some o → ks[i]? = some k → FactK I call base all ks0 s0 sF hs (cntM (ks.take i)) (pre.length + i) o k := by
  intro l
  induction l with
  | nil =>
    intro ks pre preK s h pd sF hs hF pF hall hk0 hlen he hpd hs0
    cases ks with
    | nil =>
      simp only [opsD, Option.some.injEq, Prod.mk.injEq] at he
      obtain ⟨rfl, rfl, rfl, rfl⟩ := he
      exact ⟨rfl, rfl, rfl, rfl, hpd, fun i o k hi => by simp at hi⟩
    | cons k ks => cases k <;> simp [opsD] at he
  | cons o r ih =>
    intro ks pre preK s h pd sF hs hF pF hall hk0 hlen he hpd hs0
    cases ks with
    | nil => simp [opsD] at he
    | cons k ks =>
      obtain ⟨s1, v, h1, pd1, hs1, hp, hrun, hinv⟩ := opsD_cons he
      have hoi : all[pre.length]? = some o := by rw [hall]; simp
      have hki : ks0[pre.length]? = some k := by rw [hk0, hlen]; simp
      have hall' : all = (pre ++ [o]) ++ r := by rw [hall]; simp
      have hk0' : ks0 = (preK ++ [k]) ++ ks := by rw [hk0]; simp
      have hlen' : (pre ++ [o]).length = (preK ++ [k]).length := by rw [List.length_append, List.length_append, hlen]; rfl
      have hrn : ∀ o' ∈ r, ∀ t, o.dst = some t → o'.dst ≠ some t := fun o' ho' t ht ht' => by
        obtain ⟨q, hq⟩ := List.getElem?_of_mem ho'
        have h1 : all[pre.length + 1 + q]? = some o' := by
          rw [hall', List.getElem?_append_right (by simp)]
          rw [show pre.length + 1 + q - (pre ++ [o]).length = q by simp]
          exact hq
        have := (dstsOk_spec hdst _ _ _ _ _ hoi h1 ht ht').1
        omega
      have hnow : ∀ t, (∀ (k : Nat) (o' : Oper), all[k]? = some o' → o'.dst = some t → k < pre.length) → ∀ o' ∈ o :: r, o'.dst ≠ some t := fun t hl o' ho' ht => by
        obtain ⟨q, hq⟩ := List.getElem?_of_mem ho'
        have h1 : all[pre.length + q]? = some o' := by
          rw [hall, List.getElem?_append_right (by omega), show pre.length + q - pre.length = q by omega]
          exact hq
        have := hl _ _ h1 ht
        omega
      have f1 := opsD_frame hn _ _ _ _ _ _ _ _ _ he
      obtain ⟨g1, g2⟩ := putD_get hn hp
      have f2 : Val sF o v := fun d hd => by
        obtain ⟨hlt, hg⟩ := g2 d hd
        rw [opsD_frame hn r ks s1 h1 pd1 sF hs1 hF pF hrun d (Nat.lt_of_lt_of_le hlt hn) fun o' ho' => hrn o' ho' d hd, hg]
      have hsame : k ≠ .n → Same (opd s) (opd sF) o.op.operands.toList := fun hkn => opd_same fun t ht hlt => (f1 t hlt (hnow t fun k' o' h1 h2 => hap _ _ hoi t (.inr ⟨ht, by rw [hki]; exact fun e => hkn (Option.some.inj e)⟩) k' o' h1 h2)).symm
      have hat : FrAt all s0 sF pre.length o s := fun t ht hlt => ⟨fun hl => (f1 t hlt (hnow t hl)).symm, fun k' o' h1 h2 h3 => hs0 t hlt fun o2 ho2 h4 => by
        obtain ⟨q, hq⟩ := List.getElem?_of_mem ho2
        have hql : q < pre.length := (List.getElem?_eq_some_iff.1 hq).1
        have h5 : all[q]? = some o2 := by rw [hall, List.getElem?_append_left hql]; exact hq
        have := (dstsOk_spec hdst _ _ _ _ _ h1 h5 h2 h4).1
        omega⟩
      have hwant : wanted all s o.guard = wanted all sF o.guard := wanted_same fun t j b oj hg hj hd hlt => (f1 t hlt (hnow t (hap _ _ hoi t (.inl ⟨j, b, oj, hg, hj, hd⟩)))).symm
      have hs1' : ∀ t, t < 512 → (∀ o' ∈ pre ++ [o], o'.dst ≠ some t) → s1.get t = s0.get t := fun t hlt hno => by
        rw [g1 t hlt (hno o (by simp)), hs0 t hlt fun o' ho' => hno o' (List.mem_append_left _ ho')]
      have hpd1 : ∀ x ∈ pd1, PF I all ks0 sF x := by
        cases k with
        | m js => obtain ⟨Hj, h2, _⟩ := hinv; exact fun x hx => hpd x (joinL_mem h2 x hx)
        | f q =>
          obtain ⟨_, _, qq, b, h2, _, _, _, rfl⟩ := hinv
          intro x hx
          rcases List.mem_cons.1 hx with rfl | hx
          · exact ⟨_, o, qq, hki, hoi, by rw [← mk_congr (hsame (by simp))]; exact h2⟩
          · exact hpd x hx
        | n => obtain ⟨_, _, rfl, _⟩ := hinv; exact hpd
        | r lo hi => obtain ⟨_, _, rfl, _⟩ := hinv; exact hpd
      obtain ⟨i1, i2, i3, i4, i6, i7⟩ := ih ks (pre ++ [o]) (preK ++ [k]) s1 h1 pd1 sF hs1 hF pF hall' hk0' hlen' hrun hpd1 hs1'
      have i8 : ∀ (i : Nat) o' k', r[i]? = some o' → ks[i]? = some k' → FactK I call base all ks0 s0 sF hs1 (cntM (ks.take i)) (pre.length + (i + 1)) o' k' := fun i o' k' hi hk => by
        have := i7 i o' k' hi hk
        rwa [List.length_append, List.length_singleton, Nat.add_assoc, Nat.add_comm 1 i] at this
      cases k with
      | m js =>
        obtain ⟨Hj, h2, rfl, h3⟩ := hinv
        refine ⟨by simp [i1], by simp [i2, cntM], rfl, by simpa [cntM] using i4, i6, fun i o' k' hi hk => ?_⟩
        cases i with
        | zero =>
          simp at hi hk
          subst hi hk
          refine ⟨h, Hj, h1, pd, pd1, rfl, by simpa [cntM] using i3, hpd, h2, ?_⟩
          rcases h3 with ⟨hw, hst⟩ | ⟨hw, rfl, rfl⟩
          · exact .inl ⟨by rw [← hwant]; exact hw, v, by rw [← step_congr (hsame (by simp))]; exact hst, f2⟩
          · exact .inr ⟨by rw [← hwant]; exact hw, rfl, f2⟩
        | succ i =>
          rw [List.getElem?_cons_succ] at hi hk
          exact (i8 i o' k' hi hk).up
      | f q =>
        obtain ⟨rfl, rfl, qq, b, h2, h3, h4, rfl, _⟩ := hinv
        refine ⟨by simp [i1], i2, i3, i4, i6, fun i o' k' hi hk => ?_⟩
        cases i with
        | zero =>
          simp at hi hk
          subst hi hk
          exact ⟨qq, b, by rw [← mk_congr (hsame (by simp))]; exact h2, h3, h4, f2⟩
        | succ i =>
          rw [List.getElem?_cons_succ] at hi hk
          exact i8 i o' k' hi hk
      | n =>
        obtain ⟨rfl, rfl, _, h3⟩ := hinv
        refine ⟨by simp [i1], i2, i3, i4, i6, fun i o' k' hi hk => ?_⟩
        cases i with
        | zero =>
          simp at hi hk
          subst hi hk
          rcases h3 with ⟨hw, h', h3⟩ | ⟨hw, rfl⟩
          · exact .inl ⟨by rw [← hwant]; exact hw, v, s, _, h', i3, h3, f2, hat⟩
          · exact .inr ⟨by rw [← hwant]; exact hw, f2⟩
        | succ i =>
          rw [List.getElem?_cons_succ] at hi hk
          exact i8 i o' k' hi hk
      | r lo hi =>
        obtain ⟨rfl, rfl, _, h3⟩ := hinv
        refine ⟨by simp [i1], i2, i3, i4, i6, fun i o' k' hi hk => ?_⟩
        cases i with
        | zero =>
          simp at hi hk
          subst hi hk
          rcases h3 with ⟨hw, h', h3⟩ | ⟨hw, rfl⟩
          · exact .inl ⟨by rw [← hwant]; exact hw, v, _, h', i3, by rw [← op1_congr (hsame (by simp))]; exact h3, f2⟩
          · exact .inr ⟨by rw [← hwant]; exact hw, f2⟩
        | succ i =>
          rw [List.getElem?_cons_succ] at hi hk
          exact i8 i o' k' hi hk
end Go.Ev
namespace Go.Ev
open Go Go.Sym Go.RowKit
set_option linter.unusedSectionVars false
variable [Vl]
variable {P : Program} {I : Info} {n base : Nat} {all : List Oper} {ks : List K} {call : FuncId → List V → Hp → Option (V × Hp)} {sF s : Fr} {h h0 H H1 : Hp} {w w0 w1 : World} {bs bs0 bs1 : Nm} {a a0 : Act}
def FR (w0 w : World) (bs : Nm) (H : Hp) (id : Nat) (b : Bl) : Prop := ∃ k, bs.b id = some k ∧ w0.heap.size ≤ k ∧ BR w bs id b k ∧ ¬ Owned H bs k ∧ ∀ id', bs.b id' = some k → id' = id
theorem FR.move {id : Nat} {b : Bl} (hf : FR w0 w bs H id b) (hR : HR w bs H) (hid : id < H.nx) (hM : Mv w w1 bs bs1 H H1) : FR w0 w1 bs1 H1 id b := by
  obtain ⟨k, h1, h2, h3, h4, h5⟩ := hf
  have hk := (hR.dom id k h1).2
  refine ⟨k, hM.le.b _ _ h1, h2, h3.mono (hM.old k hk h4) hM.le (hM.low id hid).2, fun ho => h4 (hM.own k hk ho), fun id' e => ?_⟩
  rcases hM.range id' k e hk with e1 | e1
  · exact h5 id' e1
  · exact absurd e1 h4
theorem FR.other {id id2 : Nat} {b b2 : Bl} (hf : FR w0 w bs H id b) (hf2 : FR w0 w bs H id2 b2) (hR : HR w bs H) (hne : id2 ≠ id) : FR w0 w bs (H.put id2 (some b2)) id b := by
  obtain ⟨k, h1, h2, h3, h4, h5⟩ := hf
  obtain ⟨k2, g1, _⟩ := hf2
  refine ⟨k, h1, h2, h3, fun ho => ?_, h5⟩
  rcases owned_put (hR.dom id2 k2 g1).1 g1 ho with e | e
  · subst e
    exact hne (h5 id2 g1)
  · exact h4 e
theorem join_ok : ∀ {js : List Nat} {pd pd' : List (Nat × Bl)} {H Hj : Hp}, joinL base js pd H = some (pd', Hj) → js.Nodup → HR w bs H → Mv w0 w bs0 bs h0 H → (∀ x ∈ pd, x.1 ∈ js → FR w0 w bs H (base + x.1) x.2) →
    HR w bs Hj ∧ Mv w0 w bs0 bs h0 Hj ∧ Hj.nx = H.nx ∧ ∀ q b, q ∉ js → FR w0 w bs H (base + q) b → FR w0 w bs Hj (base + q) b
  | [], pd, pd', H, Hj, he, _, hR, hM, _ => by
    simp only [joinL, Option.some.injEq, Prod.mk.injEq] at he
    obtain ⟨rfl, rfl⟩ := he
    exact ⟨hR, hM, rfl, fun _ _ _ h => h⟩
  | j :: js, pd, pd', H, Hj, he, hnd, hR, hM, hf => by
    simp only [joinL] at he
    split at he
    case h_2 => cases he
    rename_i b hb
    have hj := hf _ (look_mem hb) List.mem_cons_self
    obtain ⟨k, h1, h2, h3, h4, h5⟩ := hj
    have hid := (hR.dom _ k h1).1
    rw [List.nodup_cons] at hnd
    obtain ⟨r1, r2, r3, r4⟩ := join_ok he hnd.2 (hR.join h1 h3 h4) (hM.join hid h1 h2) (fun x hx hxj => by
      have hne : j ≠ x.1 := fun e => hnd.1 (by rw [e]; exact hxj)
      exact (hf x (drop_mem hx) (List.mem_cons_of_mem _ hxj)).other (b2 := b) ⟨k, h1, h2, h3, h4, h5⟩ hR (by omega))
    refine ⟨r1, r2, r3, fun q b' hq hfr => r4 q b' (fun e => hq (List.mem_cons_of_mem _ e)) (hfr.other (b2 := b) ⟨k, h1, h2, h3, h4, h5⟩ hR ?_)⟩
    have : j ≠ q := fun e => hq (by rw [e]; exact List.mem_cons_self)
    omega
def jn : List K → Nat → Nat → Bool
  | [], _, _ => false
  | .m _ :: _, 0, _ => false
  | .m js :: r, p + 1, q => js.contains q || jn r p q
  | _ :: r, p, q => jn r p q
theorem jn_mem : ∀ {ks : List K} {p q : Nat}, jn ks p q = true → q ∈ allJ ks
  | [], p, q, h => by simp [jn] at h
  | .m js :: r, 0, q, h => by simp [jn] at h
  | .m js :: r, p + 1, q, h => by
    simp only [jn, Bool.or_eq_true] at h
    rw [allJ, List.mem_append]
    rcases h with h | h
    · exact .inl (by simpa using h)
    · exact .inr (jn_mem h)
  | .n :: r, p, q, h => jn_mem (ks := r) h
  | .r _ _ :: r, p, q, h => jn_mem (ks := r) h
  | .f _ :: r, p, q, h => jn_mem (ks := r) h
theorem jn_zero : ∀ (ks : List K) (q : Nat), jn ks 0 q = false
  | [], _ => rfl
  | .m _ :: _, _ => rfl
  | .n :: r, q => jn_zero r q
  | .r _ _ :: r, q => jn_zero r q
  | .f _ :: r, q => jn_zero r q
theorem jn_at : ∀ {ks : List K} {i : Nat} {js : List Nat}, (allJ ks).Nodup → ks[i]? = some (.m js) → js.Nodup ∧ ∀ q, jn ks (cntM (ks.take i) + 1) q = (jn ks (cntM (ks.take i)) q || js.contains q) ∧ (q ∈ js → jn ks (cntM (ks.take i)) q = false)
  | [], i, js, _, h => by simp at h
  | k :: r, 0, js, hnd, h => by
    simp at h
    subst h
    rw [allJ, List.nodup_append] at hnd
    refine ⟨hnd.1, fun q => ⟨?_, fun _ => rfl⟩⟩
    show (js.contains q || jn r 0 q) = (false || js.contains q)
    rw [jn_zero, Bool.or_false, Bool.false_or]
  | .m js' :: r, i + 1, js, hnd, h => by
    rw [List.getElem?_cons_succ] at h
    rw [allJ, List.nodup_append] at hnd
    obtain ⟨h1, h2⟩ := jn_at hnd.2.1 h
    have hmem : ∀ q, q ∈ js → q ∈ allJ r := fun q hq => jn_mem (p := cntM (r.take i) + 1) (by rw [(h2 q).1, Bool.or_eq_true]; exact .inr (by simpa using hq))
    refine ⟨h1, fun q => ⟨?_, fun hq => ?_⟩⟩
    · show (js'.contains q || jn r (cntM (r.take i) + 1) q) = ((js'.contains q || jn r (cntM (r.take i)) q) || js.contains q)
      rw [(h2 q).1, Bool.or_assoc]
    · show (js'.contains q || jn r (cntM (r.take i)) q) = false
      rw [(h2 q).2 hq, Bool.or_false]
      cases hb : js'.contains q with
      | false => rfl
      | true => exact absurd rfl (hnd.2.2 q (by simpa using hb) q (hmem q hq))
  | .n :: r, i + 1, js, hnd, h => jn_at (ks := r) hnd (by rwa [List.getElem?_cons_succ] at h)
  | .r _ _ :: r, i + 1, js, hnd, h => jn_at (ks := r) hnd (by rwa [List.getElem?_cons_succ] at h)
  | .f _ :: r, i + 1, js, hnd, h => jn_at (ks := r) hnd (by rwa [List.getElem?_cons_succ] at h)
theorem cntM_ex : ∀ {ks : List K} {p : Nat}, p < cntM ks → ∃ (i : Nat) (js : List Nat), ks[i]? = some (.m js) ∧ cntM (ks.take i) = p
  | [], p, h => by simp [cntM] at h
  | .m js :: r, 0, h => ⟨0, js, rfl, rfl⟩
  | .m js :: r, p + 1, h => by
    obtain ⟨i, js', h1, h2⟩ := cntM_ex (ks := r) (p := p) (by simp only [cntM] at h; omega)
    exact ⟨i + 1, js', by rw [List.getElem?_cons_succ]; exact h1, by simp only [List.take_succ_cons, cntM, h2]⟩
  | .n :: r, p, h => by obtain ⟨i, js', h1, h2⟩ := cntM_ex (ks := r) (p := p) h; exact ⟨i + 1, js', by rw [List.getElem?_cons_succ]; exact h1, h2⟩
  | .r _ _ :: r, p, h => by obtain ⟨i, js', h1, h2⟩ := cntM_ex (ks := r) (p := p) h; exact ⟨i + 1, js', by rw [List.getElem?_cons_succ]; exact h1, h2⟩
  | .f _ :: r, p, h => by obtain ⟨i, js', h1, h2⟩ := cntM_ex (ks := r) (p := p) h; exact ⟨i + 1, js', by rw [List.getElem?_cons_succ]; exact h1, h2⟩
theorem cntM_mono : ∀ {ks : List K} {i e : Nat} {js : List Nat}, e < i → ks[e]? = some (.m js) → cntM (ks.take e) < cntM (ks.take i)
  | [], i, e, js, _, h => by simp at h
  | k :: r, 0, e, js, hl, _ => by omega
  | k :: r, i + 1, 0, js, _, h => by simp at h; subst h; simp [cntM]
  | .m _ :: r, i + 1, e + 1, js, hl, h => by
    rw [List.getElem?_cons_succ] at h
    have := cntM_mono (ks := r) (i := i) (e := e) (by omega) h
    simp only [List.take_succ_cons, cntM]; omega
  | .n :: r, i + 1, e + 1, js, hl, h => by rw [List.getElem?_cons_succ] at h; exact cntM_mono (ks := r) (i := i) (e := e) (by omega) h
  | .r _ _ :: r, i + 1, e + 1, js, hl, h => by rw [List.getElem?_cons_succ] at h; exact cntM_mono (ks := r) (i := i) (e := e) (by omega) h
  | .f _ :: r, i + 1, e + 1, js, hl, h => by rw [List.getElem?_cons_succ] at h; exact cntM_mono (ks := r) (i := i) (e := e) (by omega) h
end Go.Ev
