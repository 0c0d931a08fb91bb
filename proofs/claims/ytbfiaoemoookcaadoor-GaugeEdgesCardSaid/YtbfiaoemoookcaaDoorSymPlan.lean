/-
  A region that draws its order and writes memory while it does: what each operation yields is one value; what memory is, by which operations have come up.
-/
import Derived.Test.YtbfiaoemoookcaaDoorSymGrow
namespace Go.Sym
open Go Go.RowKit

section
variable {P : Program} {Q : Exit → Act → World → Prop} {n : Nat} {ops : List Oper}

/-- In this state operation i yields v, and leaves a world of the class of the state behind it. -/
def SYields (P : Program) (ops : List Oper) (C : (Nat → Bool) → World → Prop) (S : Nat → Bool) (i : Nat) (o : Oper) (a : Act) (w : World) (v : Value) : Prop :=
  (Region.wanted o (yielded ops.toArray a.tmps) = true ∧
    (((execOp a.eval o).run P w = .ok (.value v) w ∧ C (gput S i true) w) ∨
     (∃ w', (execOp a.eval o).run P w = .ok .skip w' ∧ o.dst = none ∧ v = undef ∧ C (gput S i true) w') ∨
     ∃ f args, (execOp a.eval o).run P w = .ok (.enter f args) w ∧ Calls P f args w (fun e w' => e = .returned v ∧ C (gput S i true) w'))) ∨
  (Region.wanted o (yielded ops.toArray a.tmps) = false ∧ v = undef ∧ C (gput S i true) w)

def sobl (P : Program) (ops : List Oper) (n : Nat) (C : (Nat → Bool) → World → Prop) (es : List (Nat × Value)) (i : Nat) (o : Oper) (vals : Nat → Value) (v : Value) : Prop :=
  ∀ (S : Nat → Bool) (a : Act) (w : World), (∀ j, (reach ops (ops.length + 1) i).contains j = true → S j = true) → (∀ k, (reach ops (ops.length + 1) k).contains i = true → S k = false) → S i = false →
    Slots a n (predEnv ops o es vals) → C S w → SYields P ops C S i o a w v

def splan (P : Program) (ops : List Oper) (n : Nat) (C : (Nat → Bool) → World → Prop) (es : List (Nat × Value)) (K : (Nat → Value) → Prop) : List Oper → Nat → (Nat → Value) → Prop
  | [], _, vals => K vals
  | o :: rest, i, vals => ∃ v, sobl P ops n C es i o vals v ∧ splan P ops n C es K rest (i + 1) (vput vals i v)

theorem splan_all {C : (Nat → Bool) → World → Prop} {es : List (Nat × Value)} {K : (Nat → Value) → Prop} (hlex : ∀ i o, ops[i]? = some o → ∀ e ∈ o.after, Region.binds .any e = true → e.on < i) :
    ∀ (l : List Oper) (k : Nat) (vals : Nat → Value), (∀ j, l[j]? = none ∨ l[j]? = ops[k + j]?) → splan P ops n C es K l k vals →
      ∃ vs : Nat → Value, (∀ j, j < k → vs j = vals j) ∧ K vs ∧ ∀ i o, k ≤ i → i < k + l.length → ops[i]? = some o → sobl P ops n C es i o vs (vs i)
  | [], k, vals, _, h => ⟨vals, fun _ _ => rfl, h, fun i o h1 h2 => by simp at h2; omega⟩
  | o :: l, k, vals, hl, h => by
    obtain ⟨v, h1, h2⟩ := h
    have h0 : ops[k]? = some o := by
      rcases hl 0 with h | h
      · simp at h
      · simpa using h.symm
    obtain ⟨vs, e1, e2, e3⟩ := splan_all hlex l (k + 1) (vput vals k v) (fun j => by
      rcases hl (j + 1) with h | h
      · exact .inl (by simpa using h)
      · exact .inr (by rw [show k + 1 + j = k + (j + 1) by omega, ← h]; simp)) h2
    have ev : ∀ j, j < k → vs j = vals j := fun j hj => by
      rw [e1 j (by omega)]
      unfold vput
      rw [show Nat.beq j k = false from by
        cases hb : Nat.beq j k with
        | false => rfl
        | true => have := Nat.eq_of_beq_eq_true hb; omega]
      rfl
    refine ⟨vs, ev, e2, fun i o' hi1 hi2 ho' => ?_⟩
    by_cases hik : i = k
    · subst hik
      have : o' = o := Option.some.inj (ho'.symm.trans h0)
      subst this
      have hv : vs i = v := by
        rw [e1 i (by omega)]
        unfold vput
        rw [show Nat.beq i i = true from beq_self _]
        rfl
      rw [hv]
      intro S a w hp hs hi hS hC
      refine h1 S a w hp hs hi (hS.weaken ?_) hC
      have : predEnv ops o' es vals = predEnv ops o' es vs := by
        unfold predEnv
        congr 2
        refine filterMap_eq fun e he => ?_
        split
        · rename_i hb
          rw [ev e.on (hlex i o' ho' e (Array.mem_toList_iff.1 he) hb)]
        · rfl
      rw [this]
      exact fun i v h => h
    · exact e3 i o' (by omega) (by simp at hi2; omega) ho'


/-- **A region that draws its order**: its first t operations yield their values in whatever order; the others come last, in the order of the text. -/
theorem c_splan {id : Nat} {a : Act} {w : World} {E : Nat → Option Value} (t : Nat) (C : (Nat → Bool) → World → Prop) (es : List (Nat × Value)) (hm : P.follows .mixedOrders = true)
    (hB : (lexicalB ops && tailB ops t && dstsOk n ops && outside (ops.take t) es && decide (t ≤ ops.length)) = true) (hS : Slots a n E) (hes : allIn E es) (hC : C (fun _ => false) { w with drawn := w.drawn + 1 })
    (h : splan P ops n C es (fun vals => ∀ a w, Slots a n (env ((List.range t).filterMap (fun i => ((ops[i]?).bind (·.dst)).map (fun d => (d, vals i))) ++ es)) → C (fun i => decide (i < t)) w → wpList P ops.toArray Q (ops.drop t) a w) (ops.take t) 0 (fun _ => undef)) :
    (Code.region id ops.toArray true).wp P Q a w := by
  simp only [Bool.and_eq_true, decide_eq_true_eq] at hB
  obtain ⟨⟨⟨⟨hlex, htail⟩, hdst⟩, hout⟩, hle⟩ := hB
  have hlex' := lexicalB_spec hlex
  obtain ⟨vs, -, hK, hall⟩ := splan_all hlex' (ops.take t) 0 (fun _ => undef) (fun j => by
    by_cases hj : j < t
    · exact .inr (by simp [hj])
    · exact .inl (by simp [List.getElem?_take, hj])) h
  have hlen : (ops.take t).length = t := by simp; omega
  rw [hlen] at hall
  refine wp_region_any hm ?_
  refine wpAny_inv (fun S a w => S.size = ops.length ∧ (∀ i o, ops[i]? = some o → S.getD i false = true → ∀ e ∈ o.after, Region.binds .any e = true → S.getD e.on false = true) ∧
    (((∃ i, i < t ∧ S.getD i false = false) ∧ Held a n ops es vs (fun i => S.getD i false && decide (i < t)) ∧ C (fun i => S.getD i false) w) ∨
     (∃ j, t ≤ j ∧ (∀ i, i < j → i < ops.length → S.getD i false = true) ∧ (∀ i, j ≤ i → S.getD i false = false) ∧ wpList P ops.toArray Q (ops.drop j) a w))) ?_ ?_ ?_ _ _ _ _ ?_ ?_
  · intro S a w i hi ⟨hsz, hcl, hI⟩
    obtain ⟨hun, o, ho, hpre⟩ := mem_ready.1 hi
    have ho' : ops[i]? = some o := by simpa using ho
    have hilt : i < ops.length := (List.getElem?_eq_some_iff.1 ho').1
    have hun' : S.getD i false = false := both_of hun
    have hcl' : ∀ k o, ops[k]? = some o → (S.setIfInBounds i true).getD k false = true → ∀ e ∈ o.after, Region.binds .any e = true → (S.setIfInBounds i true).getD e.on false = true := by
      intro k ok hk hSk e he hb
      refine getD_set_true ?_
      by_cases hki : i = k
      · subst hki
        have : ok = o := Option.some.inj (hk.symm.trans ho')
        subst this
        exact hpre e he hb
      · rw [getD_set_ne false hki] at hSk
        exact hcl k ok hk hSk e he hb
    have hreach : ∀ k ok, ops[k]? = some ok → (∀ e ∈ ok.after, Region.binds .any e = true → S.getD e.on false = true) → ∀ j, (reach ops (ops.length + 1) k).contains j = true → S.getD j false = true := by
      intro k ok hk hp j hj
      exact reach_closed (S := fun k => S.getD k false) hcl _ k (fun o2 ho2 e he hb => by
        have : o2 = ok := Option.some.inj (ho2.symm.trans hk)
        subst this
        exact hp e he hb) j (by simpa using hj)
    have hsink : t ≤ i → ∀ j, j < i → S.getD j false = true := by
      intro hti j hji
      have h1 := List.all_eq_true.1 htail i (List.mem_range.2 hilt)
      simp only [Bool.or_eq_true, decide_eq_true_eq] at h1
      rcases h1 with h1 | h1
      · omega
      · exact hreach i o ho' hpre j (List.all_eq_true.1 h1 j (List.mem_range.2 hji))
    rcases hI with ⟨⟨k, hkt, hk⟩, hH, hCw⟩ | ⟨j, htj, hj1, hj2, hwp⟩
    · have hit : i < t := by
        rcases Nat.lt_or_ge i t with h | h
        · exact h
        · have := hsink h k (by omega)
          rw [hk] at this; cases this
      have hY := hall i o (Nat.zero_le _) (by omega) ho' (fun k => S.getD k false) a w (fun j hj => hreach i o ho' hpre j hj)
        (fun k hk => by
          cases hSk : S.getD k false with
          | false => rfl
          | true =>
            exfalso
            have hkl : k < ops.length := by
              rcases Nat.lt_or_ge k ops.length with h | h
              · exact h
              · rw [Array.getD_eq_getD_getElem?, Array.getElem?_eq_none (by omega)] at hSk
                cases hSk
            have h3 := hreach k ops[k] (List.getElem?_eq_getElem hkl) (hcl k ops[k] (List.getElem?_eq_getElem hkl) hSk) i hk
            rw [hun'] at h3; cases h3) hun'
        (hH.slots (o := o) (fun e he hb => by
        have h1 := hpre e he hb
        have h2 := hlex' i o ho' e he hb
        simp only [h1, Bool.true_and, decide_eq_true_eq]
        omega)) hCw
      have heq : ∀ k, (S.setIfInBounds i true).getD k false = (bif Nat.beq k i then true else S.getD k false) := by
        intro k
        by_cases hki : k = i
        · subst hki
          rw [show Nat.beq k k = true from beq_self _]
          have : k < S.size := by omega
          simp [Array.getD_eq_getD_getElem?, this]
        · rw [beq_ne hki, getD_set_ne false (fun e => hki e.symm)]
          rfl
      have hSS : (fun k => (S.setIfInBounds i true).getD k false) = gput (fun k => S.getD k false) i true := funext heq
      have hnext : ∀ w', C (gput (fun k => S.getD k false) i true) w' → (S.setIfInBounds i true).size = ops.length ∧ (∀ k o, ops[k]? = some o → (S.setIfInBounds i true).getD k false = true → ∀ e ∈ o.after, Region.binds .any e = true → (S.setIfInBounds i true).getD e.on false = true) ∧
          (((∃ k, k < t ∧ (S.setIfInBounds i true).getD k false = false) ∧ Held (a.put o.dst (vs i)) n ops es vs (fun k => (S.setIfInBounds i true).getD k false && decide (k < t)) ∧ C (fun k => (S.setIfInBounds i true).getD k false) w') ∨
          (∃ j, t ≤ j ∧ (∀ k, k < j → k < ops.length → (S.setIfInBounds i true).getD k false = true) ∧ (∀ k, j ≤ k → (S.setIfInBounds i true).getD k false = false) ∧ wpList P ops.toArray Q (ops.drop j) (a.put o.dst (vs i)) w')) := by
        intro w' hC'
        refine ⟨by simpa using hsz, hcl', ?_⟩
        have hH' := hH.done (outside_spec hout (mem_take hit ho')) hdst ho'
        rw [← hSS] at hC'
        have hH'' : Held (a.put o.dst (vs i)) n ops es vs (fun k => (S.setIfInBounds i true).getD k false && decide (k < t)) := by
          refine ⟨hH'.defers, hH'.size, hH'.outer, fun k ok d hk hd hSk => hH'.inner k ok d hk hd ?_⟩
          simp only [Bool.and_eq_true, decide_eq_true_eq, heq] at hSk
          cases hb : Nat.beq k i with
          | true => rfl
          | false => rw [hb] at hSk; simp only [cond_false] at hSk ⊢; simp [hSk.1, hSk.2]
        by_cases hmore : ∃ k, k < t ∧ (S.setIfInBounds i true).getD k false = false
        · exact .inl ⟨hmore, hH'', hC'⟩
        · have hfull : ∀ k, k < t → (S.setIfInBounds i true).getD k false = true := by
            intro k hk
            cases hb : (S.setIfInBounds i true).getD k false with
            | true => rfl
            | false => exact absurd ⟨k, hk, hb⟩ hmore
          have hnot : ∀ k, t ≤ k → (S.setIfInBounds i true).getD k false = false := by
            intro k hk
            have hki : i ≠ k := by omega
            rw [getD_set_ne false hki]
            cases hb : S.getD k false with
            | false => rfl
            | true =>
              -- a tail operation that has come up: then all ahead of it have, i among them
              exfalso
              have hkl : k < ops.length := by
                rcases Nat.lt_or_ge k ops.length with h | h
                · exact h
                · rw [Array.getD_eq_getD_getElem?, Array.getElem?_eq_none (by omega)] at hb
                  cases hb
              have h1 := List.all_eq_true.1 htail k (List.mem_range.2 hkl)
              simp only [Bool.or_eq_true, decide_eq_true_eq] at h1
              rcases h1 with h1 | h1
              · omega
              · have h2 := List.all_eq_true.1 h1 i (List.mem_range.2 (by omega))
                have := reach_closed (S := fun k => S.getD k false) hcl _ k (fun o2 ho2 => hcl k o2 ho2 hb) i (by simpa using h2)
                rw [hun'] at this; cases this
          have h5 : (fun i' => (S.setIfInBounds i true).getD i' false) = fun i => decide (i < t) := by
            funext k
            by_cases hk : k < t
            · rw [hfull k hk]; simp [hk]
            · rw [hnot k (by omega)]; simp [hk]
          refine .inr ⟨t, Nat.le_refl _, fun k hk _ => hfull k hk, hnot, ?_⟩
          · refine hK _ _ ⟨hH''.defers, hH''.size, fun d v hv => ?_⟩ (h5 ▸ hC')
            rcases env_append_spec hv with ⟨p, hp, h1, h2⟩ | hv
            · rw [List.mem_filterMap] at hp
              obtain ⟨k, hk, hpk⟩ := hp
              have hkt := List.mem_range.1 hk
              cases hok : ops[k]? with
              | none => simp [hok] at hpk
              | some ok =>
                cases hdk : ok.dst with
                | none => simp [hok, hdk] at hpk
                | some dk =>
                  simp [hok, hdk] at hpk
                  subst hpk
                  simp only at h1 h2
                  subst h1 h2
                  refine hH''.inner k ok dk hok hdk ?_
                  simp only [Bool.and_eq_true, decide_eq_true_eq]
                  refine ⟨?_, hkt⟩
                  cases hb : (S.setIfInBounds i true).getD k false with
                  | true => rfl
                  | false => exact absurd ⟨k, hkt, hb⟩ hmore
            · exact hH''.outer d v hv
      unfold wpOp
      simp only [ho]
      rcases hY with ⟨hw, hY⟩ | ⟨hw, hv, hCn⟩
      · rw [if_pos hw]
        refine .inl ?_
        unfold Oper.wp
        rcases hY with ⟨hY, hCn⟩ | ⟨w', hY, hnd, hvu, hCn⟩ | ⟨f, args, hY, hcall⟩
        · rw [hY]
          exact hnext w hCn
        · rw [hY, Oper.upon_skip]
          have := hnext w' hCn
          rw [hvu] at this
          exact this
        · rw [hY, Oper.upon_enter]
          refine hcall.mono ?_
          rintro e w' ⟨rfl, hC'⟩
          exact hnext w' hC'
      · rw [if_neg (by rw [hw]; simp)]
        have := hnext w hCn
        rw [hv] at this
        exact this
    · have hij : i = j := by
        rcases Nat.lt_trichotomy i j with h | h | h
        · have := hj1 i h hilt
          rw [hun'] at this; cases this
        · exact h
        · have := hsink (by omega) j h
          rw [hj2 j (Nat.le_refl _)] at this; cases this
      subst hij
      have hdrop : ops.drop i = o :: ops.drop (i + 1) := by
        rw [List.drop_eq_getElem_cons hilt]
        congr 1
        exact Option.some.inj ((List.getElem?_eq_getElem hilt).symm.trans ho')
      rw [hdrop] at hwp
      have hgo : ∀ a' w', wpList P ops.toArray Q (ops.drop (i + 1)) a' w' → (S.setIfInBounds i true).size = ops.length ∧ (∀ k o, ops[k]? = some o → (S.setIfInBounds i true).getD k false = true → ∀ e ∈ o.after, Region.binds .any e = true → (S.setIfInBounds i true).getD e.on false = true) ∧
          (((∃ k, k < t ∧ (S.setIfInBounds i true).getD k false = false) ∧ Held a' n ops es vs (fun k => (S.setIfInBounds i true).getD k false && decide (k < t)) ∧ C (fun k => (S.setIfInBounds i true).getD k false) w') ∨
          (∃ j, t ≤ j ∧ (∀ k, k < j → k < ops.length → (S.setIfInBounds i true).getD k false = true) ∧ (∀ k, j ≤ k → (S.setIfInBounds i true).getD k false = false) ∧ wpList P ops.toArray Q (ops.drop j) a' w')) := by
        intro a' w' h
        refine ⟨by simpa using hsz, hcl', .inr ⟨i + 1, by omega, ?_, ?_, h⟩⟩
        · intro k hk hkl
          by_cases hki : i = k
          · subst hki
            have : i < S.size := by omega
            simp [Array.getD_eq_getD_getElem?, this]
          · exact getD_set_true (hj1 k (by omega) hkl)
        · intro k hk
          rw [getD_set_ne false (by omega)]
          exact hj2 k (by omega)
      unfold wpOp
      simp only [ho]
      unfold wpList at hwp
      split at hwp
      · rename_i hw
        rw [if_pos hw]
        rcases hwp with h | h
        · exact .inl (Oper.wp_mono (fun a' w' h => hgo a' w' h) h)
        · exact .inr h
      · rename_i hw
        rw [if_neg hw]
        exact hgo _ _ hwp
  · intro S a w hr ⟨hsz, hcl, hI⟩
    have hfull : ∀ i, i < ops.length → S.getD i false = true := by
      intro i
      induction i using Nat.strongRecOn with
      | _ i ih =>
        intro hi
        cases hb : S.getD i false with
        | true => rfl
        | false =>
          exfalso
          have : i ∈ Region.ready .any ops.toArray S := by
            rw [mem_ready]
            refine ⟨in_of (by omega) hb, ops[i], by simp [hi], fun e he hbi => ?_⟩
            have hlt := hlex' i ops[i] (List.getElem?_eq_getElem hi) e he hbi
            exact ih e.on hlt (by omega)
          rw [hr] at this; cases this
    rcases hI with ⟨⟨k, hkt, hk⟩, _, _⟩ | ⟨j, htj, hj1, hj2, hwp⟩
    · rw [hfull k (by omega)] at hk; cases hk
    · have : ops.length ≤ j := by
        rcases Nat.lt_or_ge j ops.length with h | h
        · have := hj2 j (Nat.le_refl _); rw [hfull j h] at this; cases this
        · exact h
      rw [List.drop_eq_nil_of_le this] at hwp
      exact hwp
  · intro S a w hI
    simpa using hI.1
  · simpa using (List.length_filter_le _ (List.range ops.length))
  · have hrep : ∀ i, (Array.replicate ops.toArray.size false).getD i false = false := fun i => replicate_false _ _
    refine ⟨by simp, fun i o _ hi => (by rw [hrep] at hi; cases hi), ?_⟩
    by_cases ht : 0 < t
    · refine .inl ⟨⟨0, ht, hrep 0⟩, ⟨hS.defers, hS.size, fun i v hv => (hS.to es hes).get i v hv, fun i o d _ _ hi => ?_⟩, (funext hrep : (fun i => (Array.replicate ops.toArray.size false).getD i false) = fun _ => false) ▸ hC⟩
      simp only [Bool.and_eq_true] at hi
      rw [hrep] at hi; cases hi.1
    · have h0 : t = 0 := by omega
      subst h0
      refine .inr ⟨0, Nat.le_refl _, fun i hi => by omega, fun i _ => hrep i, ?_⟩
      exact hK _ _ (by simpa using hS.to es hes) (by simpa using hC)


end

section
variable {P : Program} {Q : Exit → Act → World → Prop} {n : Nat} {ops : List Oper}

/-- Operation q writes, and comes behind all ahead of it but for those of fl, which read no memory; all behind it wait for it. -/
def twoB (ops : List Oper) (q t : Nat) (fl : Nat → Bool) : Bool :=
  (List.range t).all fun i => if i < q then fl i || (reach ops (ops.length + 1) q).contains i else if i = q then true else (reach ops (ops.length + 1) i).contains q

def tplan (P : Program) (ops : List Oper) (n q : Nat) (fl : Nat → Bool) (C0 : World → Prop) (es : List (Nat × Value)) (K : (World → Prop) → (Nat → Value) → Prop) : List Oper → Nat → (Nat → Value) → Prop
  | [], _, _ => False
  | o :: rest, i, vals =>
    if i = q then ∃ C1 : World → Prop, (o.dst = none ∧ o.guard = none ∧ ∀ a w, Slots a n (predEnv ops o es vals) → C0 w → ∃ w', (execOp a.eval o).run P w = .ok .skip w' ∧ C1 w') ∧ plan P ops n C1 es (K C1) rest (i + 1) (vput vals i undef)
    else ∃ v, (if fl i then o.guard = none ∧ ∀ a w, Slots a n (predEnv ops o es vals) → Run P a o w v else ∀ a w, Slots a n (predEnv ops o es vals) → C0 w → Yields P ops C0 o a w v) ∧ tplan P ops n q fl C0 es K rest (i + 1) (vput vals i v)

def both (q : Nat) (C0 C1 : World → Prop) (S : Nat → Bool) (w : World) : Prop := if S q then C1 w else C0 w

theorem Yields.sy {C : World → Prop} {CC : (Nat → Bool) → World → Prop} {S : Nat → Bool} {i : Nat} {o : Oper} {a : Act} {w : World} {v : Value} (h : Yields P ops C o a w v) (hC : C w) (hCC : ∀ w, C w → CC (gput S i true) w) : SYields P ops CC S i o a w v := by
  rcases h with ⟨h1, h2 | ⟨f, args, h2, h3⟩⟩ | ⟨h1, h2⟩
  · exact .inl ⟨h1, .inl ⟨h2, hCC _ hC⟩⟩
  · exact .inl ⟨h1, .inr (.inr ⟨f, args, h2, h3.mono fun _ _ ⟨he, hc⟩ => ⟨he, hCC _ hc⟩⟩)⟩
  · exact .inr ⟨h1, h2, hCC _ hC⟩

theorem plan_behind {q t : Nat} {fl : Nat → Bool} {C0 C1 : World → Prop} {es : List (Nat × Value)} {K : (Nat → Value) → Prop} (hB : twoB ops q t fl = true) : ∀ (l : List Oper) (i : Nat) (vals : Nat → Value), q < i → i + l.length ≤ t → plan P ops n C1 es K l i vals →
    splan P ops n (both q C0 C1) es K l i vals
  | [], _, _, _, _, h => h
  | o :: l, i, vals, hi, hl, h => by
    obtain ⟨v, h1, h2⟩ := h
    simp only [List.length_cons] at hl
    refine ⟨v, ?_, plan_behind hB l (i + 1) _ (by omega) (by omega) h2⟩
    intro S a w hp hs hSi hS hC
    have hr := List.all_eq_true.1 hB i (List.mem_range.2 (by omega))
    rw [if_neg (by omega), if_neg (by omega)] at hr
    have hq := hp q hr
    unfold both at hC
    rw [hq] at hC
    simp only [if_true] at hC
    exact (h1 a w hS hC).sy hC (fun w' hc => by
      unfold both
      rw [gput_ne _ _ (by omega), hq]
      exact hc)

theorem tplan_splan {q t : Nat} {fl : Nat → Bool} {C0 : World → Prop} {es : List (Nat × Value)} {K : (World → Prop) → (Nat → Value) → Prop} (hB : twoB ops q t fl = true) : ∀ (l : List Oper) (i : Nat) (vals : Nat → Value), i ≤ q → i + l.length ≤ t → tplan P ops n q fl C0 es K l i vals →
    ∃ C1, splan P ops n (both q C0 C1) es (K C1) l i vals
  | [], _, _, _, _, h => h.elim
  | o :: l, i, vals, hi, hl, h => by
    simp only [List.length_cons] at hl
    unfold tplan at h
    split at h
    · rename_i hiq
      subst hiq
      obtain ⟨C1, ⟨hd, hg, h1⟩, h2⟩ := h
      refine ⟨C1, undef, ?_, plan_behind hB l _ _ (by omega) (by omega) h2⟩
      intro S a w hp hs hSi hS hC
      unfold both at hC
      rw [hSi] at hC
      simp only [Bool.false_eq_true, if_false] at hC
      obtain ⟨w', h3, h4⟩ := h1 a w hS hC
      refine .inl ⟨by simp [Region.wanted, hg], .inr (.inl ⟨w', h3, hd, rfl, ?_⟩)⟩
      unfold both
      rw [gput_self]
      exact h4
    · rename_i hiq
      obtain ⟨v, h1, h2⟩ := h
      obtain ⟨C1, h3⟩ := tplan_splan hB l (i + 1) _ (by omega) (by omega) h2
      refine ⟨C1, v, ?_, h3⟩
      intro S a w hp hs hSi hS hC
      have hr := List.all_eq_true.1 hB i (List.mem_range.2 (by omega))
      rw [if_pos (by omega)] at hr
      split at h1
      · obtain ⟨hg, h1⟩ := h1
        refine .inl ⟨by simp [Region.wanted, hg], .inl ⟨h1 a w hS, ?_⟩⟩
        unfold both at hC ⊢
        rw [gput_ne _ _ (fun e => hiq e.symm)]
        exact hC
      · rename_i hfl
        simp only [hfl, Bool.false_or] at hr
        have hq := hs q hr
        unfold both at hC
        rw [hq] at hC
        simp only [Bool.false_eq_true, if_false] at hC
        exact (h1 a w hS hC).sy hC (fun w' hc => by
          unfold both
          rw [gput_ne _ _ (fun e => hiq e.symm), hq]
          exact hc)

/-- **A region that draws its order, in which one operation writes**: those of fl read no memory, and may come ahead of it or behind it. -/
theorem c_two {id : Nat} {a : Act} {w : World} {E : Nat → Option Value} (t q : Nat) (fl : Nat → Bool) (C0 : World → Prop) (es : List (Nat × Value)) (hm : P.follows .mixedOrders = true)
    (hB : ((lexicalB ops && tailB ops t && dstsOk n ops && outside (ops.take t) es && decide (t ≤ ops.length)) && (twoB ops q t fl && decide (q < t))) = true) (hS : Slots a n E) (hes : allIn E es) (hC : C0 { w with drawn := w.drawn + 1 })
    (h : tplan P ops n q fl C0 es (fun C1 vals => ∀ a w, Slots a n (env ((List.range t).filterMap (fun i => ((ops[i]?).bind (·.dst)).map (fun d => (d, vals i))) ++ es)) → C1 w → wpList P ops.toArray Q (ops.drop t) a w) (ops.take t) 0 (fun _ => undef)) :
    (Code.region id ops.toArray true).wp P Q a w := by
  rw [Bool.and_eq_true] at hB
  obtain ⟨hB1, hB2⟩ := hB
  simp only [Bool.and_eq_true, decide_eq_true_eq] at hB2
  obtain ⟨hB2, hqt⟩ := hB2
  have hle : t ≤ ops.length := by simp only [Bool.and_eq_true, decide_eq_true_eq] at hB1; exact hB1.2
  obtain ⟨C1, h1⟩ := tplan_splan hB2 _ _ _ (Nat.zero_le _) (by simp; omega) h
  refine c_splan t (both q C0 C1) es hm hB1 hS hes (by unfold both; exact hC) ?_
  have hK : (fun vals : Nat → Value => ∀ a w, Slots a n (env ((List.range t).filterMap (fun i => ((ops[i]?).bind (·.dst)).map (fun d => (d, vals i))) ++ es)) → both q C0 C1 (fun i => decide (i < t)) w → wpList P ops.toArray Q (ops.drop t) a w) =
      (fun vals : Nat → Value => ∀ a w, Slots a n (env ((List.range t).filterMap (fun i => ((ops[i]?).bind (·.dst)).map (fun d => (d, vals i))) ++ es)) → C1 w → wpList P ops.toArray Q (ops.drop t) a w) := by
    funext vals
    unfold both
    simp only [decide_eq_true hqt, if_true]
  rw [hK]
  exact h1

theorem t_step {q i : Nat} {fl : Nat → Bool} {C0 : World → Prop} {es : List (Nat × Value)} {K : (World → Prop) → (Nat → Value) → Prop} {l rest : List Oper} {o : Oper} {vals : Nat → Value} {v : Value} (hl : l = o :: rest) (hi : Nat.beq i q = false) (hf : fl i = false)
    (h : ∀ a w, Slots a n (predEnv ops o es vals) → C0 w → Yields P ops C0 o a w v) (hn : tplan P ops n q fl C0 es K rest (i + 1) (vput vals i v)) : tplan P ops n q fl C0 es K l i vals := by
  subst hl
  have : ¬ i = q := by intro e; subst e; rw [beq_self] at hi; cases hi
  unfold tplan
  rw [if_neg this]
  exact ⟨v, by rw [hf]; exact h, hn⟩
theorem t_float {q i : Nat} {fl : Nat → Bool} {C0 : World → Prop} {es : List (Nat × Value)} {K : (World → Prop) → (Nat → Value) → Prop} {l rest : List Oper} {o : Oper} {vals : Nat → Value} {v : Value} (hl : l = o :: rest) (hi : Nat.beq i q = false) (hf : fl i = true) (hg : o.guard = none)
    (h : ∀ a w, Slots a n (predEnv ops o es vals) → Run P a o w v) (hn : tplan P ops n q fl C0 es K rest (i + 1) (vput vals i v)) : tplan P ops n q fl C0 es K l i vals := by
  subst hl
  have : ¬ i = q := by intro e; subst e; rw [beq_self] at hi; cases hi
  unfold tplan
  rw [if_neg this]
  exact ⟨v, by rw [hf]; exact ⟨hg, h⟩, hn⟩
theorem t_write {q i : Nat} {fl : Nat → Bool} {C0 C1 : World → Prop} {es : List (Nat × Value)} {K : (World → Prop) → (Nat → Value) → Prop} {l rest : List Oper} {o : Oper} {vals : Nat → Value} (hl : l = o :: rest) (hi : Nat.beq i q = true) (hd : o.dst = none) (hg : o.guard = none)
    (h : ∀ a w, Slots a n (predEnv ops o es vals) → C0 w → ∃ w', (execOp a.eval o).run P w = .ok .skip w' ∧ C1 w') (hn : plan P ops n C1 es (K C1) rest (i + 1) (vput vals i undef)) : tplan P ops n q fl C0 es K l i vals := by
  subst hl
  have : i = q := Nat.eq_of_beq_eq_true hi
  unfold tplan
  rw [if_pos this]
  exact ⟨C1, ⟨hd, hg, h⟩, hn⟩

variable {a : Act} {w w0 : World} {E : Nat → Option Value} {L : List Blk}
variable {ty : TypeId} {pos : String} {af : Array Edge}
/-- a store of one cell, as it runs -/
theorem e_store {t : TypeId} {x y : Operand} {b off j : Nat} {bt : TypeId} {cs : List Value} {u old : Value} (hS : Slots a n E) (hM : Mem w0 w L) (hx : ev E x = some (ptr b off)) (hy : ev E y = some u) (hj : L[j]? = some ⟨b, bt, cs⟩)
    (hs : (P.info? t).map (·.size) = some 1) (hv : u.oneCell' = true) (hold : cs[off]? = some old) :
    ∃ w', (execOp a.eval ⟨none, .store t x y, ty, pos, af, none⟩).run P w = .ok .skip w' ∧ Mem w0 w' (setAt L j (cs.set off u)) := by
  have hcells : u.cells = #[u] := by cases u <;> first | rfl | (simp [Value.oneCell'] at hv)
  have hst := run_storeOne (P := P) w b off u old hv (by rw [hM.cell hj]; exact hold) (hM.frozen hj off)
  have hadd : (⟨b, off, none⟩ : Addr).add 0 = ⟨b, off, none⟩ := Addr.add_lit ..
  refine ⟨w.setCell ⟨b, off, none⟩ u, ?_, hM.setCell hj off u⟩
  simp [execOp, hS.eval hx, hS.eval hy, Instr.storeAt, Instr.sureAddr, ptr, storeVar, hcells, run_sizeOf hs, storeCells, hadd, hst]
theorem e_storeU {t : TypeId} {x y : Operand} {b i j m : Nat} {bt : TypeId} {f : Nat → BitVec 64} {v : BitVec 64} (hS : Slots a n E) (hM : Mem w0 w L) (hx : ev E x = some (ptr b i)) (hy : ev E y = some (U v)) (hj : L[j]? = some ⟨b, bt, cU m f⟩)
    (hs : (P.info? t).map (·.size) = some 1) (hi : i < m) : ∃ w', (execOp a.eval ⟨none, .store t x y, ty, pos, af, none⟩).run P w = .ok .skip w' ∧ Mem w0 w' (setAt L j (cU m (upd f i v))) := by
  have := e_store (P := P) (ty := ty) (pos := pos) (af := af) hS hM hx hy hj hs rfl (cells_get hi)
  rwa [cU_set] at this
theorem e_storeB {t : TypeId} {x y : Operand} {b i j m : Nat} {bt : TypeId} {f : Nat → BitVec 8} {v : BitVec 8} (hS : Slots a n E) (hM : Mem w0 w L) (hx : ev E x = some (ptr b i)) (hy : ev E y = some (B v)) (hj : L[j]? = some ⟨b, bt, cB m f⟩)
    (hs : (P.info? t).map (·.size) = some 1) (hi : i < m) : ∃ w', (execOp a.eval ⟨none, .store t x y, ty, pos, af, none⟩).run P w = .ok .skip w' ∧ Mem w0 w' (setAt L j (cB m (upd f i v))) := by
  have := e_store (P := P) (ty := ty) (pos := pos) (af := af) hS hM hx hy hj hs rfl (cells_get hi)
  rwa [cB_set] at this
end
end Go.Sym
