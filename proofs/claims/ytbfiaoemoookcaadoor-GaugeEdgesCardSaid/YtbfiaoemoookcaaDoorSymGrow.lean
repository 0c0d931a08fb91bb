/-
  A region that draws its order and makes memory while it does: each operation of its head may add new blocks; what it yields is told by a relation, not by one value.
-/
import Derived.Test.YtbfiaoemoookcaaDoorSymMem
namespace Go.Sym
open Go Go.RowKit

theorem Mem.perm {w0 w : World} {L L' : List Blk} (h : Mem w0 w L) (p : L.Perm L') : Mem w0 w L' where
  os := h.os
  tape := h.tape
  output := h.output
  size := h.size
  old := fun k hk hne => h.old k hk (fun e he => hne e (p.mem_iff.1 he))
  have_ := fun e he => h.have_ e (p.mem_iff.2 he)
  nodup := (p.map (·.b)).nodup_iff.1 h.nodup

/-- w' is w, and the new blocks B. -/
structure Grow (w w' : World) (B : List Blk) : Prop where
  mem : Mem w w' B
  new : ∀ e ∈ B, w.heap.size ≤ e.b

theorem Grow.refl (w : World) : Grow w w [] := ⟨Mem.refl w, fun _ h => by cases h⟩
theorem Grow.of_mem {w w' : World} (h : Mem w w' []) : Grow w w' [] := ⟨h, fun _ h => by cases h⟩

theorem Mem.grow {w0 w w' : World} {L B : List Blk} (h : Mem w0 w L) (g : Grow w w' B) : Mem w0 w' (B ++ L) where
  os := g.mem.os.trans h.os
  tape := g.mem.tape.trans h.tape
  output := g.mem.output.trans h.output
  size := Nat.le_trans h.size g.mem.size
  old := by
    intro k hk hne
    rw [g.mem.old k (Nat.lt_of_lt_of_le hk h.size) (fun e he => by have h1 := g.new e he; have h2 := h.size; omega)]
    exact h.old k hk (fun e he => hne e (List.mem_append_right _ he))
  have_ := by
    intro e he
    rcases List.mem_append.1 he with he | he
    · exact g.mem.have_ e he
    · rw [g.mem.old e.b (h.lt he) (fun f hf => by have h1 := g.new f hf; have h2 := h.lt he; omega)]
      exact h.have_ e he
  nodup := by
    rw [List.map_append, List.nodup_append]
    refine ⟨g.mem.nodup, h.nodup, ?_⟩
    intro x hx y hy hxy
    obtain ⟨e, he, rfl⟩ := List.mem_map.1 hx
    obtain ⟨f, hf, rfl⟩ := List.mem_map.1 hy
    have h1 := g.new e he
    have h2 := h.lt hf
    omega

theorem Mem.dropApp {w0 w : World} : ∀ {X L : List Blk}, Mem w0 w (X ++ L) → (∀ e ∈ X, w0.heap.size ≤ e.b) → Mem w0 w L
  | [], _, h, _ => h
  | e :: _, _, h, hb => Mem.dropApp (h.drop (hb e List.mem_cons_self)) (fun f hf => hb f (List.mem_cons_of_mem _ hf))

/-- In this state the operation yields a value, new blocks, and a world, of which R tells. -/
def GYields (P : Program) (ops : List Oper) (o : Oper) (a : Act) (w : World) (R : Value → List Blk → World → Prop) : Prop :=
  (Region.wanted o (yielded ops.toArray a.tmps) = true ∧
    ((∃ v w' B, ((execOp a.eval o).run P w = .ok (.value v) w' ∨ ((execOp a.eval o).run P w = .ok .skip w' ∧ o.dst = none ∧ v = undef)) ∧ R v B w') ∨
     ∃ f args, (execOp a.eval o).run P w = .ok (.enter f args) w ∧ Calls P f args w (fun e w' => ∃ v B, e = .returned v ∧ R v B w'))) ∨
  (Region.wanted o (yielded ops.toArray a.tmps) = false ∧ R undef [] w)

def msk {α : Type} (z : α) (ops : List Oper) (i : Nat) (V : Nat → α) : Nat → α := fun j => bif Nat.beq j i || (reach ops (ops.length + 1) i).contains j then V j else z

def gput {α : Type} (V : Nat → α) (i : Nat) (v : α) : Nat → α := fun j => bif Nat.beq j i then v else V j

theorem gput_self {α : Type} (V : Nat → α) (i : Nat) (v : α) : gput V i v i = v := by unfold gput; rw [beq_self]; rfl
theorem gput_ne {α : Type} (V : Nat → α) {i j : Nat} (v : α) (h : j ≠ i) : gput V i v j = V j := by unfold gput; rw [beq_ne h]; rfl

theorem msk_congr {α : Type} {z : α} {ops : List Oper} {i : Nat} {V V' : Nat → α} (h : ∀ j, (j = i ∨ (reach ops (ops.length + 1) i).contains j = true) → V j = V' j) : msk z ops i V = msk z ops i V' := by
  funext j
  unfold msk
  by_cases hji : j = i
  · subst hji
    rw [beq_self]
    simp only [Bool.true_or, cond_true]
    exact h j (.inl rfl)
  · rw [beq_ne hji]
    cases hc : (reach ops (ops.length + 1) i).contains j with
    | false => rfl
    | true => simp only [Bool.false_or, cond_true]; exact h j (.inr hc)

/-- The new blocks of those that have come up. -/
def blks (S : Nat → Bool) (Bl : Nat → List Blk) (t : Nat) : List Blk := (List.range t).flatMap fun i => bif S i then Bl i else []

theorem blks_put {S : Nat → Bool} {Bl : Nat → List Blk} {t i : Nat} (hi : i < t) (hS : S i = false) (B : List Blk) :
    (B ++ blks S Bl t).Perm (blks (fun j => bif Nat.beq j i then true else S j) (gput Bl i B) t) := by
  unfold blks
  have key : ∀ l : List Nat, l.Nodup → i ∈ l → (B ++ l.flatMap fun j => bif S j then Bl j else []).Perm (l.flatMap fun j => bif (bif Nat.beq j i then true else S j) then gput Bl i B j else []) := by
    intro l
    induction l with
    | nil => intro _ h; cases h
    | cons k l ih =>
      intro hn hm
      rw [List.nodup_cons] at hn
      simp only [List.flatMap_cons]
      by_cases hki : k = i
      · subst hki
        rw [beq_self, gput_self, hS]
        simp only [cond_true, cond_false, List.nil_append]
        refine List.Perm.append_left B ?_
        have : (l.flatMap fun j => bif S j then Bl j else []) = l.flatMap fun j => bif (bif Nat.beq j k then true else S j) then gput Bl k B j else [] := by
          have h2 : ∀ j ∈ l, (bif S j then Bl j else []) = bif (bif Nat.beq j k then true else S j) then gput Bl k B j else [] := by
            intro j hj
            have hne : j ≠ k := fun e => hn.1 (e ▸ hj)
            rw [beq_ne hne, gput_ne _ _ hne]
            rfl
          clear ih hn hm
          induction l with
          | nil => rfl
          | cons x l ih => simp only [List.flatMap_cons]; rw [h2 x List.mem_cons_self, ih (fun j hj => h2 j (List.mem_cons_of_mem _ hj))]
        rw [this]
      · rw [beq_ne hki, gput_ne _ _ hki]
        simp only [cond_false]
        have hm' : i ∈ l := by
          rcases List.mem_cons.1 hm with h | h
          · exact absurd h.symm hki
          · exact h
        have h1 := ih hn.2 hm'
        have h3 := List.Perm.append_left (bif S k then Bl k else []) h1
        refine List.Perm.trans ?_ h3
        rw [← List.append_assoc, ← List.append_assoc]
        exact List.Perm.append_right _ List.perm_append_comm
  exact key _ List.nodup_range (List.mem_range.2 hi)

section
variable {P : Program} {Q : Exit → Act → World → Prop} {n : Nat} {ops : List Oper}

/-- What is owed for operation i. -/
def gowe (P : Program) (ops : List Oper) (n : Nat) (w0 : World) (L : (Nat → Bool) → List Blk) (es : List (Nat × Value)) (R : Nat → (Nat → Value) → (Nat → List Blk) → Prop) (i : Nat) (o : Oper) : Prop :=
  ∀ (S : Nat → Bool) (V : Nat → Value) (Bl : Nat → List Blk) (X : List Blk) (a : Act) (w : World), (∀ j, (reach ops (ops.length + 1) i).contains j = true → S j = true) → (∀ k, (reach ops (ops.length + 1) k).contains i = true → S k = false) →
    (∀ j, (reach ops (ops.length + 1) i).contains j = true → R j (msk undef ops j V) (msk [] ops j Bl)) →
    (∀ j, (reach ops (ops.length + 1) i).contains j = true → ∀ e ∈ Bl j, e ∈ X) → Slots a n (predEnv ops o es V) → Mem w0 w (X ++ L S) → (∀ e ∈ X, w0.heap.size ≤ e.b) →
    GYields P ops o a w (fun v B w' => R i (msk undef ops i (gput V i v)) (msk [] ops i (gput Bl i B)) ∧ (∀ e ∈ B, w0.heap.size ≤ e.b) ∧ Mem w0 w' (B ++ (X ++ L (gput S i true))))

def gplan (P : Program) (ops : List Oper) (n : Nat) (w0 : World) (L : (Nat → Bool) → List Blk) (es : List (Nat × Value)) (R : Nat → (Nat → Value) → (Nat → List Blk) → Prop) : List Oper → Nat → Prop
  | [], _ => True
  | o :: rest, i => gowe P ops n w0 L es R i o ∧ gplan P ops n w0 L es R rest (i + 1)

theorem gplan_get {w0 : World} {L : (Nat → Bool) → List Blk} {es : List (Nat × Value)} {R : Nat → (Nat → Value) → (Nat → List Blk) → Prop} : ∀ {l : List Oper} {k : Nat}, gplan P ops n w0 L es R l k → ∀ i o, l[i]? = some o → gowe P ops n w0 L es R (k + i) o
  | [], _, _, i, o, h => by simp at h
  | o' :: l, k, hp, 0, o, h => by simp at h; subst h; exact hp.1
  | o' :: l, k, hp, i + 1, o, h => by
    simp only [List.getElem?_cons_succ] at h
    have := gplan_get hp.2 i o h
    rw [show k + (i + 1) = k + 1 + i by omega]
    exact this

theorem Held.vput {a : Act} {es : List (Nat × Value)} {V : Nat → Value} {S : Nat → Bool} (h : Held a n ops es V S) {i : Nat} (hS : S i = false) (v : Value) : Held a n ops es (gput V i v) S :=
  ⟨h.defers, h.size, h.outer, fun j o d hj hd hSj => by
    have hne : j ≠ i := by intro e; subst e; rw [hS] at hSj; cases hSj
    rw [gput_ne _ _ hne]
    exact h.inner j o d hj hd hSj⟩

set_option maxHeartbeats 1000000 in
/-- **A region that draws its order and makes memory.** -/
theorem c_gplan {id : Nat} {a : Act} {w w0 : World} {E : Nat → Option Value} (t : Nat) (L : (Nat → Bool) → List Blk) (es : List (Nat × Value)) (R : Nat → (Nat → Value) → (Nat → List Blk) → Prop) (hm : P.follows .mixedOrders = true)
    (hB : (lexicalB ops && tailB ops t && dstsOk n ops && outside (ops.take t) es && decide (t ≤ ops.length) && decide (0 < t)) = true) (hS : Slots a n E) (hes : allIn E es) (hM : Mem w0 w (L fun _ => false))
    (h : gplan P ops n w0 L es R (ops.take t) 0)
    (hK : ∀ (V : Nat → Value) (Bl : Nat → List Blk) (a : Act) (w : World), (∀ i, i < t → R i (msk undef ops i V) (msk [] ops i Bl)) → (∀ i, i < t → ∀ e ∈ Bl i, w0.heap.size ≤ e.b) →
      Slots a n (env ((List.range t).filterMap (fun i => ((ops[i]?).bind (·.dst)).map (fun d => (d, V i))) ++ es)) →
      Mem w0 w ((List.range t).flatMap Bl ++ L (fun i => decide (i < t))) → wpList P ops.toArray Q (ops.drop t) a w) :
    (Code.region id ops.toArray true).wp P Q a w := by
  simp only [Bool.and_eq_true, decide_eq_true_eq] at hB
  obtain ⟨⟨⟨⟨⟨hlex, htail⟩, hdst⟩, hout⟩, hle⟩, ht0⟩ := hB
  have hlex' := lexicalB_spec hlex
  have hall : ∀ i o, i < t → ops[i]? = some o → gowe P ops n w0 L es R i o := by
    intro i o hi ho
    have := gplan_get h i o (by rw [List.getElem?_take, if_pos hi]; exact ho)
    simpa using this
  refine wp_region_any hm ?_
  refine wpAny_inv (fun S a w => S.size = ops.length ∧ (∀ i o, ops[i]? = some o → S.getD i false = true → ∀ e ∈ o.after, Region.binds .any e = true → S.getD e.on false = true) ∧
    (((∃ i, i < t ∧ S.getD i false = false) ∧ ∃ V Bl, Held a n ops es V (fun i => S.getD i false && decide (i < t)) ∧ (∀ i, i < t → S.getD i false = true → R i (msk undef ops i V) (msk [] ops i Bl)) ∧
        (∀ i, i < t → S.getD i false = true → ∀ e ∈ Bl i, w0.heap.size ≤ e.b) ∧ Mem w0 w (blks (fun i => S.getD i false) Bl t ++ L (fun i => S.getD i false))) ∨
     (∃ j, t ≤ j ∧ (∀ i, i < j → i < ops.length → S.getD i false = true) ∧ (∀ i, j ≤ i → S.getD i false = false) ∧ wpList P ops.toArray Q (ops.drop j) a w))) ?_ ?_ ?_ _ _ _ _ ?_ ?_
  · intro S a w i hi ⟨hsz, hcl, hI⟩
    obtain ⟨hun, o, ho, hpre⟩ := mem_ready.1 hi
    have ho' : ops[i]? = some o := by simpa using ho
    have hilt : i < ops.length := (List.getElem?_eq_some_iff.1 ho').1
    have hun' : S.getD i false = false := both_of hun
    have hcl' : ∀ k o, ops[k]? = some o → (S.setIfInBounds i true).getD k false = true → ∀ e ∈ o.after, Region.binds .any e = true → (S.setIfInBounds i true).getD e.on false = true := by
      intro k ok hk hSk e he hb
      refine getD_set_true ?_
      by_cases hki : i = k
      · subst hki
        have : ok = o := Option.some.inj (hk.symm.trans ho')
        subst this
        exact hpre e he hb
      · rw [getD_set_ne false hki] at hSk
        exact hcl k ok hk hSk e he hb
    have hreach : ∀ k ok, ops[k]? = some ok → (∀ e ∈ ok.after, Region.binds .any e = true → S.getD e.on false = true) → ∀ j, (reach ops (ops.length + 1) k).contains j = true → S.getD j false = true := by
      intro k ok hk hp j hj
      exact reach_closed (S := fun k => S.getD k false) hcl _ k (fun o2 ho2 e he hb => by
        have : o2 = ok := Option.some.inj (ho2.symm.trans hk)
        subst this
        exact hp e he hb) j (by simpa using hj)
    have hsink : t ≤ i → ∀ j, j < i → S.getD j false = true := by
      intro hti j hji
      have h1 := List.all_eq_true.1 htail i (List.mem_range.2 hilt)
      simp only [Bool.or_eq_true, decide_eq_true_eq] at h1
      rcases h1 with h1 | h1
      · omega
      · exact hreach i o ho' hpre j (List.all_eq_true.1 h1 j (List.mem_range.2 hji))
    rcases hI with ⟨⟨k, hkt, hk⟩, V, Bl, hH, hR, hN, hMw⟩ | ⟨j, htj, hj1, hj2, hwp⟩
    · have hit : i < t := by
        rcases Nat.lt_or_ge i t with h | h
        · exact h
        · have := hsink h k (by omega)
          rw [hk] at this; cases this
      have hrl : ∀ j, (reach ops (ops.length + 1) i).contains j = true → j < t ∧ S.getD j false = true := by
        intro j hj
        have hSj := hreach i o ho' hpre j hj
        have hji : j < i := by
          have key : ∀ (f k : Nat), (∀ ok, ops[k]? = some ok → ∀ e ∈ ok.after, Region.binds .any e = true → e.on < k) → ∀ j ∈ reach ops f k, j < k := by
            intro f
            induction f with
            | zero => intro k _ j hj; simp [reach] at hj
            | succ f ih =>
              intro k hk j hj
              simp only [reach] at hj
              cases hok : ops[k]? with
              | none => simp [hok] at hj
              | some ok =>
                simp only [hok, List.mem_flatMap] at hj
                obtain ⟨e, he, hj⟩ := hj
                split at hj
                · rename_i hb
                  have hlt := hk ok hok e (Array.mem_toList_iff.1 he) hb
                  rcases List.mem_cons.1 hj with rfl | hj
                  · exact hlt
                  · have := ih e.on (fun ok' hok' e' he' hb' => hlex' e.on ok' hok' e' he' hb') j hj
                    omega
                · cases hj
          exact key _ i (fun ok hok e he hb => hlex' i ok hok e he hb) j (by simpa using hj)
        exact ⟨by omega, hSj⟩
      have hfresh : ∀ e ∈ blks (fun i => S.getD i false) Bl t, w0.heap.size ≤ e.b := by
        intro e he
        unfold blks at he
        obtain ⟨j, hj, he⟩ := List.mem_flatMap.1 he
        simp only at he
        cases hSj : S.getD j false with
        | false => rw [hSj] at he; cases he
        | true => rw [hSj] at he; exact hN j (List.mem_range.1 hj) hSj e he
      have hY := hall i o hit ho' (fun i => S.getD i false) V Bl (blks (fun i => S.getD i false) Bl t) a w (fun j hj => (hrl j hj).2)
        (fun k hk => by
          cases hSk : S.getD k false with
          | false => rfl
          | true =>
            exfalso
            have hkl : k < ops.length := by
              rcases Nat.lt_or_ge k ops.length with h | h
              · exact h
              · rw [Array.getD_eq_getD_getElem?, Array.getElem?_eq_none (by omega)] at hSk
                cases hSk
            have h3 := hreach k ops[k] (List.getElem?_eq_getElem hkl) (hcl k ops[k] (List.getElem?_eq_getElem hkl) hSk) i hk
            rw [hun'] at h3; cases h3)
        (fun j hj => hR j (hrl j hj).1 (hrl j hj).2)
        (fun j hj e he => List.mem_flatMap.2 ⟨j, List.mem_range.2 (hrl j hj).1, by simp only; rw [(hrl j hj).2]; exact he⟩)
        (hH.slots (o := o) (fun e he hb => by
          have h1 := hpre e he hb
          have h2 := hlex' i o ho' e he hb
          simp only [h1, Bool.true_and, decide_eq_true_eq]
          omega)) hMw hfresh
      have heq : ∀ k, (S.setIfInBounds i true).getD k false = (bif Nat.beq k i then true else S.getD k false) := by
        intro k
        by_cases hki : k = i
        · subst hki
          rw [show Nat.beq k k = true from beq_self _]
          have : k < S.size := by omega
          simp [Array.getD_eq_getD_getElem?, this]
        · rw [beq_ne hki, getD_set_ne false (fun e => hki e.symm)]
          rfl
      have hnext : ∀ v B w', (R i (msk undef ops i (gput V i v)) (msk [] ops i (gput Bl i B)) ∧ (∀ e ∈ B, w0.heap.size ≤ e.b) ∧ Mem w0 w' (B ++ (blks (fun i => S.getD i false) Bl t ++ L (gput (fun i => S.getD i false) i true)))) → (S.setIfInBounds i true).size = ops.length ∧ (∀ k o, ops[k]? = some o → (S.setIfInBounds i true).getD k false = true → ∀ e ∈ o.after, Region.binds .any e = true → (S.setIfInBounds i true).getD e.on false = true) ∧
          (((∃ i', i' < t ∧ (S.setIfInBounds i true).getD i' false = false) ∧ ∃ V Bl, Held (a.put o.dst v) n ops es V (fun i' => (S.setIfInBounds i true).getD i' false && decide (i' < t)) ∧ (∀ i', i' < t → (S.setIfInBounds i true).getD i' false = true → R i' (msk undef ops i' V) (msk [] ops i' Bl)) ∧
              (∀ i', i' < t → (S.setIfInBounds i true).getD i' false = true → ∀ e ∈ Bl i', w0.heap.size ≤ e.b) ∧ Mem w0 w' (blks (fun i' => (S.setIfInBounds i true).getD i' false) Bl t ++ L (fun i' => (S.setIfInBounds i true).getD i' false))) ∨
           (∃ j, t ≤ j ∧ (∀ i', i' < j → i' < ops.length → (S.setIfInBounds i true).getD i' false = true) ∧ (∀ i', j ≤ i' → (S.setIfInBounds i true).getD i' false = false) ∧ wpList P ops.toArray Q (ops.drop j) (a.put o.dst v) w')) := by
        rintro v B w' ⟨hRi, hBn, hMB⟩
        refine ⟨by simpa using hsz, hcl', ?_⟩
        have hH1 := (hH.vput (i := i) (by simp only [hun', Bool.false_and]) v).done (outside_spec hout (mem_take hit ho')) hdst ho'
        rw [gput_self] at hH1
        have hH'' : Held (a.put o.dst v) n ops es (gput V i v) (fun k => (S.setIfInBounds i true).getD k false && decide (k < t)) := by
          refine ⟨hH1.defers, hH1.size, hH1.outer, fun k ok d hk hd hSk => hH1.inner k ok d hk hd ?_⟩
          simp only [Bool.and_eq_true, decide_eq_true_eq, heq] at hSk
          cases hb : Nat.beq k i with
          | true => rfl
          | false => rw [hb] at hSk; simp only [cond_false] at hSk ⊢; simp [hSk.1, hSk.2]
        have hR' : ∀ i', i' < t → (S.setIfInBounds i true).getD i' false = true → R i' (msk undef ops i' (gput V i v)) (msk [] ops i' (gput Bl i B)) := by
          intro i' hi' hSi'
          by_cases hii : i' = i
          · subst hii; exact hRi
          · rw [getD_set_ne false (fun e => hii e.symm)] at hSi'
            have hne : ∀ j, (j = i' ∨ (reach ops (ops.length + 1) i').contains j = true) → j ≠ i := by
              rintro j (rfl | hj) e
              · exact hii e
              · subst e
                obtain ⟨oi', hoi'⟩ : ∃ oi', ops[i']? = some oi' := ⟨ops[i']'(by omega), by simp⟩
                have := hreach i' oi' hoi' (hcl i' oi' hoi' hSi') j hj
                rw [hun'] at this; cases this
            rw [msk_congr (V := gput V i v) (V' := V) (fun j hj => gput_ne _ _ (hne j hj)), msk_congr (V := gput Bl i B) (V' := Bl) (fun j hj => gput_ne _ _ (hne j hj))]
            exact hR i' hi' hSi'
        have hN' : ∀ i', i' < t → (S.setIfInBounds i true).getD i' false = true → ∀ e ∈ gput Bl i B i', w0.heap.size ≤ e.b := by
          intro i' hi' hSi' e he
          by_cases hii : i' = i
          · subst hii
            rw [gput_self] at he
            exact hBn e he
          · rw [gput_ne _ _ hii] at he
            rw [getD_set_ne false (fun e => hii e.symm)] at hSi'
            exact hN i' hi' hSi' e he
        have hSS : (fun i' => (S.setIfInBounds i true).getD i' false) = (fun j => bif Nat.beq j i then true else S.getD j false) := funext heq
        have hMw' : Mem w0 w' (blks (fun i' => (S.setIfInBounds i true).getD i' false) (gput Bl i B) t ++ L (fun i' => (S.setIfInBounds i true).getD i' false)) := by
          rw [hSS]
          refine hMB.perm ?_
          rw [← List.append_assoc]
          exact List.Perm.append_right _ (blks_put (S := fun k => S.getD k false) (Bl := Bl) hit hun' B)
        by_cases hmore : ∃ k, k < t ∧ (S.setIfInBounds i true).getD k false = false
        · exact .inl ⟨hmore, _, _, hH'', hR', hN', hMw'⟩
        · have hfull : ∀ k, k < t → (S.setIfInBounds i true).getD k false = true := by
            intro k hk
            cases hb : (S.setIfInBounds i true).getD k false with
            | true => rfl
            | false => exact absurd ⟨k, hk, hb⟩ hmore
          have hnot : ∀ k, t ≤ k → (S.setIfInBounds i true).getD k false = false := by
            intro k hk
            have hki : i ≠ k := by omega
            rw [getD_set_ne false hki]
            cases hb : S.getD k false with
            | false => rfl
            | true =>
              exfalso
              have hkl : k < ops.length := by
                rcases Nat.lt_or_ge k ops.length with h | h
                · exact h
                · rw [Array.getD_eq_getD_getElem?, Array.getElem?_eq_none (by omega)] at hb
                  cases hb
              have h1 := List.all_eq_true.1 htail k (List.mem_range.2 hkl)
              simp only [Bool.or_eq_true, decide_eq_true_eq] at h1
              rcases h1 with h1 | h1
              · omega
              · have h2 := List.all_eq_true.1 h1 i (List.mem_range.2 (by omega))
                obtain ⟨ok, hok⟩ : ∃ ok, ops[k]? = some ok := ⟨ops[k], by simp⟩
                have := hreach k ok hok (hcl k ok hok hb) i h2
                rw [hun'] at this; cases this
          refine .inr ⟨t, Nat.le_refl _, fun k hk _ => hfull k hk, hnot, ?_⟩
          · refine hK _ _ _ _ (fun i' hi' => hR' i' hi' (hfull i' hi')) (fun i' hi' => hN' i' hi' (hfull i' hi')) ⟨hH''.defers, hH''.size, fun d u hv => ?_⟩ ?_
            · rcases env_append_spec hv with ⟨p, hp, h1, h2⟩ | hv
              · rw [List.mem_filterMap] at hp
                obtain ⟨k, hk, hpk⟩ := hp
                have hkt := List.mem_range.1 hk
                cases hok : ops[k]? with
                | none => simp [hok] at hpk
                | some ok =>
                  cases hdk : ok.dst with
                  | none => simp [hok, hdk] at hpk
                  | some dk =>
                    simp [hok, hdk] at hpk
                    subst hpk
                    simp only at h1 h2
                    subst h1 h2
                    refine hH''.inner k ok dk hok hdk ?_
                    simp only [hfull k hkt, hkt, decide_true, Bool.and_self]
              · exact hH''.outer d u hv
            · have h4 : blks (fun i' => (S.setIfInBounds i true).getD i' false) (gput Bl i B) t = (List.range t).flatMap (gput Bl i B) := by
                unfold blks
                have : ∀ l : List Nat, (∀ k ∈ l, k < t) → (l.flatMap fun i' => bif (S.setIfInBounds i true).getD i' false then gput Bl i B i' else []) = l.flatMap (gput Bl i B) := by
                  intro l
                  induction l with
                  | nil => intro _; rfl
                  | cons x l ih =>
                    intro hl
                    simp only [List.flatMap_cons]
                    rw [hfull x (hl x List.mem_cons_self), ih (fun k hk => hl k (List.mem_cons_of_mem _ hk))]
                    rfl
                exact this _ (fun k hk => List.mem_range.1 hk)
              have h5 : (fun i' => (S.setIfInBounds i true).getD i' false) = fun i => decide (i < t) := by
                funext k
                by_cases hk : k < t
                · rw [hfull k hk]; simp [hk]
                · rw [hnot k (by omega)]; simp [hk]
              rw [← h4, ← h5]
              exact hMw'
      unfold wpOp
      simp only [ho]
      rcases hY with ⟨hw, hY⟩ | ⟨hw, hv⟩
      · rw [if_pos hw]
        refine .inl ?_
        unfold Oper.wp
        rcases hY with ⟨v, w', B, hY | ⟨hY, hnd, rfl⟩, hRi⟩ | ⟨f, args, hY, hcall⟩
        · rw [hY]
          exact hnext v B w' hRi
        · rw [hY, Oper.upon_skip]
          exact hnext undef B w' hRi
        · rw [hY, Oper.upon_enter]
          refine hcall.mono ?_
          rintro e w' ⟨v, B, rfl, hRi⟩
          exact hnext v B w' hRi
      · rw [if_neg (by rw [hw]; simp)]
        exact hnext undef [] w hv
    · have hij : i = j := by
        rcases Nat.lt_trichotomy i j with h | h | h
        · have := hj1 i h hilt
          rw [hun'] at this; cases this
        · exact h
        · have := hsink (by omega) j h
          rw [hj2 j (Nat.le_refl _)] at this; cases this
      subst hij
      have hdrop : ops.drop i = o :: ops.drop (i + 1) := by
        rw [List.drop_eq_getElem_cons hilt]
        congr 1
        exact Option.some.inj ((List.getElem?_eq_getElem hilt).symm.trans ho')
      rw [hdrop] at hwp
      have hgo : ∀ a' w', wpList P ops.toArray Q (ops.drop (i + 1)) a' w' → (S.setIfInBounds i true).size = ops.length ∧ (∀ k o, ops[k]? = some o → (S.setIfInBounds i true).getD k false = true → ∀ e ∈ o.after, Region.binds .any e = true → (S.setIfInBounds i true).getD e.on false = true) ∧
          (((∃ i', i' < t ∧ (S.setIfInBounds i true).getD i' false = false) ∧ ∃ V Bl, Held a' n ops es V (fun i' => (S.setIfInBounds i true).getD i' false && decide (i' < t)) ∧ (∀ i', i' < t → (S.setIfInBounds i true).getD i' false = true → R i' (msk undef ops i' V) (msk [] ops i' Bl)) ∧
              (∀ i', i' < t → (S.setIfInBounds i true).getD i' false = true → ∀ e ∈ Bl i', w0.heap.size ≤ e.b) ∧ Mem w0 w' (blks (fun i' => (S.setIfInBounds i true).getD i' false) Bl t ++ L (fun i' => (S.setIfInBounds i true).getD i' false))) ∨
           (∃ j, t ≤ j ∧ (∀ i', i' < j → i' < ops.length → (S.setIfInBounds i true).getD i' false = true) ∧ (∀ i', j ≤ i' → (S.setIfInBounds i true).getD i' false = false) ∧ wpList P ops.toArray Q (ops.drop j) a' w')) := by
        intro a' w' h
        refine ⟨by simpa using hsz, hcl', .inr ⟨i + 1, by omega, ?_, ?_, h⟩⟩
        · intro k hk hkl
          by_cases hki : i = k
          · subst hki
            have : i < S.size := by omega
            simp [Array.getD_eq_getD_getElem?, this]
          · exact getD_set_true (hj1 k (by omega) hkl)
        · intro k hk
          rw [getD_set_ne false (by omega)]
          exact hj2 k (by omega)
      unfold wpOp
      simp only [ho]
      unfold wpList at hwp
      split at hwp
      · rename_i hw
        rw [if_pos hw]
        rcases hwp with h | h
        · exact .inl (Oper.wp_mono (fun a' w' h => hgo a' w' h) h)
        · exact .inr h
      · rename_i hw
        rw [if_neg hw]
        exact hgo _ _ hwp
  · intro S a w hr ⟨hsz, hcl, hI⟩
    have hfull : ∀ i, i < ops.length → S.getD i false = true := by
      intro i
      induction i using Nat.strongRecOn with
      | _ i ih =>
        intro hi
        cases hb : S.getD i false with
        | true => rfl
        | false =>
          exfalso
          have : i ∈ Region.ready .any ops.toArray S := by
            rw [mem_ready]
            refine ⟨in_of (by omega) hb, ops[i], by simp [hi], fun e he hbi => ?_⟩
            have hlt := hlex' i ops[i] (List.getElem?_eq_getElem hi) e he hbi
            exact ih e.on hlt (by omega)
          rw [hr] at this; cases this
    rcases hI with ⟨⟨k, hkt, hk⟩, _⟩ | ⟨j, htj, hj1, hj2, hwp⟩
    · rw [hfull k (by omega)] at hk; cases hk
    · have : ops.length ≤ j := by
        rcases Nat.lt_or_ge j ops.length with h | h
        · have := hj2 j (Nat.le_refl _); rw [hfull j h] at this; cases this
        · exact h
      rw [List.drop_eq_nil_of_le this] at hwp
      exact hwp
  · intro S a w hI
    simpa using hI.1
  · simpa using (List.length_filter_le _ (List.range ops.length))
  · have hrep : ∀ i, (Array.replicate ops.toArray.size false).getD i false = false := fun i => replicate_false _ _
    refine ⟨by simp, fun i o _ hi => (by rw [hrep] at hi; cases hi), .inl ⟨⟨0, ht0, hrep 0⟩, fun _ => undef, fun _ => [], ?_, ?_, ?_, ?_⟩⟩
    · refine ⟨hS.defers, hS.size, fun i v hv => (hS.to es hes).get i v hv, fun i o d _ _ hi => ?_⟩
      simp only [Bool.and_eq_true] at hi
      rw [hrep] at hi; cases hi.1
    · intro i _ hi; rw [hrep] at hi; cases hi
    · intro i _ hi; rw [hrep] at hi; cases hi
    · have : blks (fun i => (Array.replicate ops.toArray.size false).getD i false) (fun _ => []) t = [] := by
        unfold blks
        rw [List.flatMap_eq_nil_iff]
        intro i _
        simp only
        rw [hrep]
        rfl
      have h6 : (fun i => (Array.replicate ops.toArray.size false).getD i false) = fun _ => false := funext hrep
      rw [this, h6]
      exact hM.drawn _

end

section
variable {P : Program} {ops : List Oper} {n : Nat} {o : Oper} {a : Act} {w w0 : World} {R : Value → List Blk → World → Prop} {E : Nat → Option Value} {v : Value}

theorem gy_val (hg : o.guard = none) (hr : Run P a o w v) (hR : R v [] w) : GYields P ops o a w R := .inl ⟨by simp [Region.wanted, hg], .inl ⟨v, w, [], .inl hr, hR⟩⟩
theorem wanted_of {j dj : Nat} {b : Bool} {oj : Oper} (hS : Slots a n E) (hg : o.guard = some (j, b)) (hj : ops[j]? = some oj) (hdj : oj.dst = some dj) (hb : E dj = some (.bool b)) : Region.wanted o (yielded ops.toArray a.tmps) = true := by
  have := hS.get _ _ hb
  have hj' : ops.toArray[j]? = some oj := by simpa using hj
  simp [Region.wanted, hg, yielded, hj', hdj, this]
theorem unwanted_of {j dj : Nat} {b : Bool} {oj : Oper} (hS : Slots a n E) (hg : o.guard = some (j, b)) (hj : ops[j]? = some oj) (hdj : oj.dst = some dj) (hb : E dj = some (.bool !b)) : Region.wanted o (yielded ops.toArray a.tmps) = false := by
  have := hS.get _ _ hb
  have hj' : ops.toArray[j]? = some oj := by simpa using hj
  simp [Region.wanted, hg, yielded, hj', hdj, this]
theorem gy_valg {j dj : Nat} {b : Bool} {oj : Oper} (hS : Slots a n E) (hg : o.guard = some (j, b)) (hj : ops[j]? = some oj) (hdj : oj.dst = some dj) (hb : E dj = some (.bool b)) (hr : Run P a o w v) (hR : R v [] w) : GYields P ops o a w R :=
  .inl ⟨wanted_of hS hg hj hdj hb, .inl ⟨v, w, [], .inl hr, hR⟩⟩
theorem gy_skip {j dj : Nat} {b : Bool} {oj : Oper} (hS : Slots a n E) (hg : o.guard = some (j, b)) (hj : ops[j]? = some oj) (hdj : oj.dst = some dj) (hb : E dj = some (.bool !b)) (hR : R undef [] w) : GYields P ops o a w R :=
  .inr ⟨unwanted_of hS hg hj hdj hb, hR⟩
theorem gy_new {w' : World} {B : List Blk} (hg : o.guard = none) (hr : (execOp a.eval o).run P w = .ok (.value v) w') (hR : R v B w') : GYields P ops o a w R := .inl ⟨by simp [Region.wanted, hg], .inl ⟨v, w', B, .inl hr, hR⟩⟩
theorem Grow.alloc (w : World) (t : TypeId) (cs : List Value) : Grow w (w.alloc (.cells cs.toArray t (0, 0))) [⟨w.heap.size, t, cs⟩] := ⟨(Mem.refl w).alloc t cs, fun e he => by simp only [List.mem_singleton] at he; subst he; exact Nat.le_refl _⟩
variable {dst : Option Nat} {ty : TypeId} {pos : String} {af : Array Edge} {g : Option (Nat × Bool)}
theorem gy_alloc {t : TypeId} {cs : List Value} (hz : Zero P t cs) (hR : R (ptr w.heap.size 0) [⟨w.heap.size, t, cs⟩] (w.alloc (.cells cs.toArray t (0, 0)))) : GYields P ops ⟨dst, .alloc t, ty, pos, af, none⟩ a w R :=
  gy_new rfl (by simp [execOp, hz w]) hR
theorem gy_call {f : FuncId} {xs : List Operand} {ats : Array TypeId} {vs : List Value} (hf : callable P f = true) (hS : Slots a n E) (hx : evs E xs = some vs) (hc : Calls P f vs.toArray w fun e w' => ∃ v B, e = .returned v ∧ R v B w') :
    GYields P ops ⟨dst, .call ⟨.value (.func f), xs.toArray, ats⟩, ty, pos, af, none⟩ a w R :=
  .inl ⟨by simp [Region.wanted], .inr ⟨f, _, run_call hf hS hx, hc⟩⟩
theorem gy_pure {f : FuncId} {xs : List Operand} {ats : Array TypeId} {vs : List Value} {L : List Blk} (hS : Slots a n E) (hx : evs E xs = some vs) (hc : Pure P f vs.toArray w v) (hM : Mem w0 w L) (hR : ∀ w', Mem w0 w' L → R v [] w') :
    GYields P ops ⟨dst, .call ⟨.value (.func f), xs.toArray, ats⟩, ty, pos, af, none⟩ a w R :=
  gy_call hc.ok hS hx (hc.calls.mono fun _ _ ⟨he, hm⟩ => ⟨v, [], he, hR _ (hM.after hm)⟩)
end
end Go.Sym
