import Derived.Test.YtgmieahcpkcabaaGreatBn3
import Derived.Test.YtgmieahcpkcabaaGreatBn2
import Derived.Laws.Pointers
import Derived.Laws.Strings2
import Derived.Laws.Concat
import Derived.Laws.BytesArg
import Derived.Laws.IdiomStrings
namespace Go.Sym
open Go Go.RowKit
section
variable {P : Program} {Q : Exit → Act → World → Prop} {n : Nat} {ops : List Oper}
def SYields (P : Program) (ops : List Oper) (C : (Nat → Bool) → World → Prop) (S : Nat → Bool) (i : Nat) (o : Oper) (a : Act) (w : World) (v : Value) : Prop :=
  (Region.wanted o (yielded ops.toArray a.tmps) = true ∧
    (((execOp a.eval o).run P w = .ok (.value v) w ∧ C (gput S i true) w) ∨
     (∃ w', (execOp a.eval o).run P w = .ok .skip w' ∧ o.dst = none ∧ v = undef ∧ C (gput S i true) w') ∨
     ∃ f args, (execOp a.eval o).run P w = .ok (.enter f args) w ∧ Calls P f args w (fun e w' => e = .returned v ∧ C (gput S i true) w'))) ∨
  (Region.wanted o (yielded ops.toArray a.tmps) = false ∧ v = undef ∧ C (gput S i true) w)
def sobl (P : Program) (ops : List Oper) (n : Nat) (C : (Nat → Bool) → World → Prop) (es : List (Nat × Value)) (i : Nat) (o : Oper) (vals : Nat → Value) (v : Value) : Prop :=
  ∀ (S : Nat → Bool) (a : Act) (w : World), (∀ j, (reach ops (ops.length + 1) i).contains j = true → S j = true) → (∀ k, (reach ops (ops.length + 1) k).contains i = true → S k = false) → S i = false →
    Slots a n (predEnv ops o es vals) → C S w → SYields P ops C S i o a w v
def splan (P : Program) (ops : List Oper) (n : Nat) (C : (Nat → Bool) → World → Prop) (es : List (Nat × Value)) (K : (Nat → Value) → Prop) : List Oper → Nat → (Nat → Value) → Prop
  | [], _, vals => K vals
  | o :: rest, i, vals => ∃ v, sobl P ops n C es i o vals v ∧ splan P ops n C es K rest (i + 1) (vput vals i v)
theorem splan_all {C : (Nat → Bool) → World → Prop} {es : List (Nat × Value)} {K : (Nat → Value) → Prop} (hlex : ∀ i o, ops[i]? = some o → ∀ e ∈ o.after, Region.binds .any e = true → e.on < i) :
    ∀ (l : List Oper) (k : Nat) (vals : Nat → Value), (∀ j, l[j]? = none ∨ l[j]? = ops[k + j]?) → splan P ops n C es K l k vals →
      ∃ vs : Nat → Value, (∀ j, j < k → vs j = vals j) ∧ K vs ∧ ∀ i o, k ≤ i → i < k + l.length → ops[i]? = some o → sobl P ops n C es i o vs (vs i)
  | [], k, vals, _, h => ⟨vals, fun _ _ => rfl, h, fun i o h1 h2 => by simp at h2; omega⟩
  | o :: l, k, vals, hl, h => by
    obtain ⟨v, h1, h2⟩ := h
    have h0 : ops[k]? = some o := by
      rcases hl 0 with h | h
      · simp at h
      · simpa using h.symm
    obtain ⟨vs, e1, e2, e3⟩ := splan_all hlex l (k + 1) (vput vals k v) (fun j => by
      rcases hl (j + 1) with h | h
      · exact .inl (by simpa using h)
      · exact .inr (by rw [show k + 1 + j = k + (j + 1) by omega, ← h]; simp)) h2
    have ev : ∀ j, j < k → vs j = vals j := fun j hj => by
      rw [e1 j (by omega)]
      unfold vput
      rw [show Nat.beq j k = false from by
        cases hb : Nat.beq j k with
        | false => rfl
        | true => have := Nat.eq_of_beq_eq_true hb; omega]
      rfl
    refine ⟨vs, ev, e2, fun i o' hi1 hi2 ho' => ?_⟩
    by_cases hik : i = k
    · subst hik
      have : o' = o := Option.some.inj (ho'.symm.trans h0)
      subst this
      have hv : vs i = v := by
        rw [e1 i (by omega)]
        unfold vput
        rw [show Nat.beq i i = true from beq_self _]
        rfl
      rw [hv]
      intro S a w hp hs hi hS hC
      refine h1 S a w hp hs hi (hS.weaken ?_) hC
      have : predEnv ops o' es vals = predEnv ops o' es vs := by
        unfold predEnv
        congr 2
        refine filterMap_eq fun e he => ?_
        split
        · rename_i hb
          rw [ev e.on (hlex i o' ho' e (Array.mem_toList_iff.1 he) hb)]
        · rfl
      rw [this]
      exact fun i v h => h
    · exact e3 i o' (by omega) (by simp at hi2; omega) ho'
theorem c_splan {id : Nat} {a : Act} {w : World} {E : Nat → Option Value} (t : Nat) (C : (Nat → Bool) → World → Prop) (es : List (Nat × Value)) (hm : P.follows .mixedOrders = true)
    (hB : (lexicalB ops && tailB ops t && dstsOk n ops && outside (ops.take t) es && decide (t ≤ ops.length)) = true) (hS : Slots a n E) (hes : allIn E es) (hC : C (fun _ => false) { w with drawn := w.drawn + 1 })
    (h : splan P ops n C es (fun vals => ∀ a w, Slots a n (env ((List.range t).filterMap (fun i => ((ops[i]?).bind (·.dst)).map (fun d => (d, vals i))) ++ es)) → C (fun i => decide (i < t)) w → wpList P ops.toArray Q (ops.drop t) a w) (ops.take t) 0 (fun _ => undef)) :
    (Code.region id ops.toArray true).wp P Q a w := by
  simp only [Bool.and_eq_true, decide_eq_true_eq] at hB
  obtain ⟨⟨⟨⟨hlex, htail⟩, hdst⟩, hout⟩, hle⟩ := hB
  have hlex' := lexicalB_spec hlex
  obtain ⟨vs, -, hK, hall⟩ := splan_all hlex' (ops.take t) 0 (fun _ => undef) (fun j => by
    by_cases hj : j < t
    · exact .inr (by simp [hj])
    · exact .inl (by simp [List.getElem?_take, hj])) h
  have hlen : (ops.take t).length = t := by simp; omega
  rw [hlen] at hall
  refine wp_region_any hm ?_
  refine wpAny_inv (fun S a w => S.size = ops.length ∧ (∀ i o, ops[i]? = some o → S.getD i false = true → ∀ e ∈ o.after, Region.binds .any e = true → S.getD e.on false = true) ∧
    (((∃ i, i < t ∧ S.getD i false = false) ∧ Held a n ops es vs (fun i => S.getD i false && decide (i < t)) ∧ C (fun i => S.getD i false) w) ∨
     (∃ j, t ≤ j ∧ (∀ i, i < j → i < ops.length → S.getD i false = true) ∧ (∀ i, j ≤ i → S.getD i false = false) ∧ wpList P ops.toArray Q (ops.drop j) a w))) ?_ ?_ ?_ _ _ _ _ ?_ ?_
  · intro S a w i hi ⟨hsz, hcl, hI⟩
    obtain ⟨hun, o, ho, hpre⟩ := mem_ready.1 hi
    have ho' : ops[i]? = some o := by simpa using ho
    have hilt : i < ops.length := (List.getElem?_eq_some_iff.1 ho').1
    have hun' : S.getD i false = false := both_of hun
    have hcl' : ∀ k o, ops[k]? = some o → (S.setIfInBounds i true).getD k false = true → ∀ e ∈ o.after, Region.binds .any e = true → (S.setIfInBounds i true).getD e.on false = true := by
      intro k ok hk hSk e he hb
      refine getD_set_true ?_
      by_cases hki : i = k
      · subst hki
        have : ok = o := Option.some.inj (hk.symm.trans ho')
        subst this
        exact hpre e he hb
      · rw [getD_set_ne false hki] at hSk
        exact hcl k ok hk hSk e he hb
    have hreach : ∀ k ok, ops[k]? = some ok → (∀ e ∈ ok.after, Region.binds .any e = true → S.getD e.on false = true) → ∀ j, (reach ops (ops.length + 1) k).contains j = true → S.getD j false = true := by
      intro k ok hk hp j hj
      exact reach_closed (S := fun k => S.getD k false) hcl _ k (fun o2 ho2 e he hb => by
        have : o2 = ok := Option.some.inj (ho2.symm.trans hk)
        subst this
        exact hp e he hb) j (by simpa using hj)
    have hsink : t ≤ i → ∀ j, j < i → S.getD j false = true := by
      intro hti j hji
      have h1 := List.all_eq_true.1 htail i (List.mem_range.2 hilt)
      simp only [Bool.or_eq_true, decide_eq_true_eq] at h1
      rcases h1 with h1 | h1
      · omega
      · exact hreach i o ho' hpre j (List.all_eq_true.1 h1 j (List.mem_range.2 hji))
    rcases hI with ⟨⟨k, hkt, hk⟩, hH, hCw⟩ | ⟨j, htj, hj1, hj2, hwp⟩
    · have hit : i < t := by
        rcases Nat.lt_or_ge i t with h | h
        · exact h
        · have := hsink h k (by omega)
          rw [hk] at this; cases this
      have hY := hall i o (Nat.zero_le _) (by omega) ho' (fun k => S.getD k false) a w (fun j hj => hreach i o ho' hpre j hj)
        (fun k hk => by
          cases hSk : S.getD k false with
          | false => rfl
          | true =>
            exfalso
            have hkl : k < ops.length := by
              rcases Nat.lt_or_ge k ops.length with h | h
              · exact h
              · rw [Array.getD_eq_getD_getElem?, Array.getElem?_eq_none (by omega)] at hSk
                cases hSk
            have h3 := hreach k ops[k] (List.getElem?_eq_getElem hkl) (hcl k ops[k] (List.getElem?_eq_getElem hkl) hSk) i hk
            rw [hun'] at h3; cases h3) hun'
        (hH.slots (o := o) (fun e he hb => by
        have h1 := hpre e he hb
        have h2 := hlex' i o ho' e he hb
        simp only [h1, Bool.true_and, decide_eq_true_eq]
        omega)) hCw
      have heq : ∀ k, (S.setIfInBounds i true).getD k false = (bif Nat.beq k i then true else S.getD k false) := by
        intro k
        by_cases hki : k = i
        · subst hki
          rw [show Nat.beq k k = true from beq_self _]
          have : k < S.size := by omega
          simp [Array.getD_eq_getD_getElem?, this]
        · rw [beq_ne hki, getD_set_ne false (fun e => hki e.symm)]
          rfl
      have hSS : (fun k => (S.setIfInBounds i true).getD k false) = gput (fun k => S.getD k false) i true := funext heq
      have hnext : ∀ w', C (gput (fun k => S.getD k false) i true) w' → (S.setIfInBounds i true).size = ops.length ∧ (∀ k o, ops[k]? = some o → (S.setIfInBounds i true).getD k false = true → ∀ e ∈ o.after, Region.binds .any e = true → (S.setIfInBounds i true).getD e.on false = true) ∧
          (((∃ k, k < t ∧ (S.setIfInBounds i true).getD k false = false) ∧ Held (a.put o.dst (vs i)) n ops es vs (fun k => (S.setIfInBounds i true).getD k false && decide (k < t)) ∧ C (fun k => (S.setIfInBounds i true).getD k false) w') ∨
          (∃ j, t ≤ j ∧ (∀ k, k < j → k < ops.length → (S.setIfInBounds i true).getD k false = true) ∧ (∀ k, j ≤ k → (S.setIfInBounds i true).getD k false = false) ∧ wpList P ops.toArray Q (ops.drop j) (a.put o.dst (vs i)) w')) := by
        intro w' hC'
        refine ⟨by simpa using hsz, hcl', ?_⟩
        have hH' := hH.done (outside_spec hout (mem_take hit ho')) hdst ho'
        rw [← hSS] at hC'
        have hH'' : Held (a.put o.dst (vs i)) n ops es vs (fun k => (S.setIfInBounds i true).getD k false && decide (k < t)) := by
          refine ⟨hH'.defers, hH'.size, hH'.outer, fun k ok d hk hd hSk => hH'.inner k ok d hk hd ?_⟩
          simp only [Bool.and_eq_true, decide_eq_true_eq, heq] at hSk
          cases hb : Nat.beq k i with
          | true => rfl
          | false => rw [hb] at hSk; simp only [cond_false] at hSk ⊢; simp [hSk.1, hSk.2]
        by_cases hmore : ∃ k, k < t ∧ (S.setIfInBounds i true).getD k false = false
        · exact .inl ⟨hmore, hH'', hC'⟩
        · have hfull : ∀ k, k < t → (S.setIfInBounds i true).getD k false = true := by
            intro k hk
            cases hb : (S.setIfInBounds i true).getD k false with
            | true => rfl
            | false => exact absurd ⟨k, hk, hb⟩ hmore
          have hnot : ∀ k, t ≤ k → (S.setIfInBounds i true).getD k false = false := by
            intro k hk
            have hki : i ≠ k := by omega
            rw [getD_set_ne false hki]
            cases hb : S.getD k false with
            | false => rfl
            | true =>
              exfalso
              have hkl : k < ops.length := by
                rcases Nat.lt_or_ge k ops.length with h | h
                · exact h
                · rw [Array.getD_eq_getD_getElem?, Array.getElem?_eq_none (by omega)] at hb
                  cases hb
              have h1 := List.all_eq_true.1 htail k (List.mem_range.2 hkl)
              simp only [Bool.or_eq_true, decide_eq_true_eq] at h1
              rcases h1 with h1 | h1
              · omega
              · have h2 := List.all_eq_true.1 h1 i (List.mem_range.2 (by omega))
                have := reach_closed (S := fun k => S.getD k false) hcl _ k (fun o2 ho2 => hcl k o2 ho2 hb) i (by simpa using h2)
                rw [hun'] at this; cases this
          have h5 : (fun i' => (S.setIfInBounds i true).getD i' false) = fun i => decide (i < t) := by
            funext k
            by_cases hk : k < t
            · rw [hfull k hk]; simp [hk]
            · rw [hnot k (by omega)]; simp [hk]
          refine .inr ⟨t, Nat.le_refl _, fun k hk _ => hfull k hk, hnot, ?_⟩
          · refine hK _ _ ⟨hH''.defers, hH''.size, fun d v hv => ?_⟩ (h5 ▸ hC')
            rcases env_append_spec hv with ⟨p, hp, h1, h2⟩ | hv
            · rw [List.mem_filterMap] at hp
              obtain ⟨k, hk, hpk⟩ := hp
              have hkt := List.mem_range.1 hk
              cases hok : ops[k]? with
              | none => simp [hok] at hpk
              | some ok =>
                cases hdk : ok.dst with
                | none => simp [hok, hdk] at hpk
                | some dk =>
                  simp [hok, hdk] at hpk
                  subst hpk
                  simp only at h1 h2
                  subst h1 h2
                  refine hH''.inner k ok dk hok hdk ?_
                  simp only [Bool.and_eq_true, decide_eq_true_eq]
                  refine ⟨?_, hkt⟩
                  cases hb : (S.setIfInBounds i true).getD k false with
                  | true => rfl
                  | false => exact absurd ⟨k, hkt, hb⟩ hmore
            · exact hH''.outer d v hv
      unfold wpOp
      simp only [ho]
      rcases hY with ⟨hw, hY⟩ | ⟨hw, hv, hCn⟩
      · rw [if_pos hw]
        refine .inl ?_
        unfold Oper.wp
        rcases hY with ⟨hY, hCn⟩ | ⟨w', hY, hnd, hvu, hCn⟩ | ⟨f, args, hY, hcall⟩
        · rw [hY]
          exact hnext w hCn
        · rw [hY, Oper.upon_skip]
          have := hnext w' hCn
          rw [hvu] at this
          exact this
        · rw [hY, Oper.upon_enter]
          refine hcall.mono ?_
          rintro e w' ⟨rfl, hC'⟩
          exact hnext w' hC'
      · rw [if_neg (by rw [hw]; simp)]
        have := hnext w hCn
        rw [hv] at this
        exact this
    · have hij : i = j := by
        rcases Nat.lt_trichotomy i j with h | h | h
        · have := hj1 i h hilt
          rw [hun'] at this; cases this
        · exact h
        · have := hsink (by omega) j h
          rw [hj2 j (Nat.le_refl _)] at this; cases this
      subst hij
      have hdrop : ops.drop i = o :: ops.drop (i + 1) := by
        rw [List.drop_eq_getElem_cons hilt]
        congr 1
        exact Option.some.inj ((List.getElem?_eq_getElem hilt).symm.trans ho')
      rw [hdrop] at hwp
      have hgo : ∀ a' w', wpList P ops.toArray Q (ops.drop (i + 1)) a' w' → (S.setIfInBounds i true).size = ops.length ∧ (∀ k o, ops[k]? = some o → (S.setIfInBounds i true).getD k false = true → ∀ e ∈ o.after, Region.binds .any e = true → (S.setIfInBounds i true).getD e.on false = true) ∧
          (((∃ k, k < t ∧ (S.setIfInBounds i true).getD k false = false) ∧ Held a' n ops es vs (fun k => (S.setIfInBounds i true).getD k false && decide (k < t)) ∧ C (fun k => (S.setIfInBounds i true).getD k false) w') ∨
          (∃ j, t ≤ j ∧ (∀ k, k < j → k < ops.length → (S.setIfInBounds i true).getD k false = true) ∧ (∀ k, j ≤ k → (S.setIfInBounds i true).getD k false = false) ∧ wpList P ops.toArray Q (ops.drop j) a' w')) := by
        intro a' w' h
        refine ⟨by simpa using hsz, hcl', .inr ⟨i + 1, by omega, ?_, ?_, h⟩⟩
        · intro k hk hkl
          by_cases hki : i = k
          · subst hki
            have : i < S.size := by omega
            simp [Array.getD_eq_getD_getElem?, this]
          · exact getD_set_true (hj1 k (by omega) hkl)
        · intro k hk
          rw [getD_set_ne false (by omega)]
          exact hj2 k (by omega)
      unfold wpOp
      simp only [ho]
      unfold wpList at hwp
      split at hwp
      · rename_i hw
        rw [if_pos hw]
        rcases hwp with h | h
        · exact .inl (Oper.wp_mono (fun a' w' h => hgo a' w' h) h)
        · exact .inr h
      · rename_i hw
        rw [if_neg hw]
        exact hgo _ _ hwp
  · intro S a w hr ⟨hsz, hcl, hI⟩
    have hfull : ∀ i, i < ops.length → S.getD i false = true := by
      intro i
      induction i using Nat.strongRecOn with
      | _ i ih =>
        intro hi
        cases hb : S.getD i false with
        | true => rfl
        | false =>
          exfalso
          have : i ∈ Region.ready .any ops.toArray S := by
            rw [mem_ready]
            refine ⟨in_of (by omega) hb, ops[i], by simp [hi], fun e he hbi => ?_⟩
            have hlt := hlex' i ops[i] (List.getElem?_eq_getElem hi) e he hbi
            exact ih e.on hlt (by omega)
          rw [hr] at this; cases this
    rcases hI with ⟨⟨k, hkt, hk⟩, _, _⟩ | ⟨j, htj, hj1, hj2, hwp⟩
    · rw [hfull k (by omega)] at hk; cases hk
    · have : ops.length ≤ j := by
        rcases Nat.lt_or_ge j ops.length with h | h
        · have := hj2 j (Nat.le_refl _); rw [hfull j h] at this; cases this
        · exact h
      rw [List.drop_eq_nil_of_le this] at hwp
      exact hwp
  · intro S a w hI
    simpa using hI.1
  · simpa using (List.length_filter_le _ (List.range ops.length))
  · have hrep : ∀ i, (Array.replicate ops.toArray.size false).getD i false = false := fun i => replicate_false _ _
    refine ⟨by simp, fun i o _ hi => (by rw [hrep] at hi; cases hi), ?_⟩
    by_cases ht : 0 < t
    · refine .inl ⟨⟨0, ht, hrep 0⟩, ⟨hS.defers, hS.size, fun i v hv => (hS.to es hes).get i v hv, fun i o d _ _ hi => ?_⟩, (funext hrep : (fun i => (Array.replicate ops.toArray.size false).getD i false) = fun _ => false) ▸ hC⟩
      simp only [Bool.and_eq_true] at hi
      rw [hrep] at hi; cases hi.1
    · have h0 : t = 0 := by omega
      subst h0
      refine .inr ⟨0, Nat.le_refl _, fun i hi => by omega, fun i _ => hrep i, ?_⟩
      exact hK _ _ (by simpa using hS.to es hes) (by simpa using hC)
end
section
variable {P : Program} {Q : Exit → Act → World → Prop} {n : Nat} {ops : List Oper}
def twoB (ops : List Oper) (q t : Nat) (fl : Nat → Bool) : Bool :=
  (List.range t).all fun i => if i < q then fl i || (reach ops (ops.length + 1) q).contains i else if i = q then true else (reach ops (ops.length + 1) i).contains q
def tplan (P : Program) (ops : List Oper) (n q : Nat) (fl : Nat → Bool) (C0 : World → Prop) (es : List (Nat × Value)) (K : (World → Prop) → (Nat → Value) → Prop) : List Oper → Nat → (Nat → Value) → Prop
  | [], _, _ => False
  | o :: rest, i, vals =>
    if i = q then ∃ C1 : World → Prop, (o.dst = none ∧ o.guard = none ∧ ∀ a w, Slots a n (predEnv ops o es vals) → C0 w → ∃ w', (execOp a.eval o).run P w = .ok .skip w' ∧ C1 w') ∧ plan P ops n C1 es (K C1) rest (i + 1) (vput vals i undef)
    else ∃ v, (if fl i then o.guard = none ∧ ∀ a w, Slots a n (predEnv ops o es vals) → Run P a o w v else ∀ a w, Slots a n (predEnv ops o es vals) → C0 w → Yields P ops C0 o a w v) ∧ tplan P ops n q fl C0 es K rest (i + 1) (vput vals i v)
def both (q : Nat) (C0 C1 : World → Prop) (S : Nat → Bool) (w : World) : Prop := if S q then C1 w else C0 w
theorem Yields.sy {C : World → Prop} {CC : (Nat → Bool) → World → Prop} {S : Nat → Bool} {i : Nat} {o : Oper} {a : Act} {w : World} {v : Value} (h : Yields P ops C o a w v) (hC : C w) (hCC : ∀ w, C w → CC (gput S i true) w) : SYields P ops CC S i o a w v := by
  rcases h with ⟨h1, h2 | ⟨f, args, h2, h3⟩⟩ | ⟨h1, h2⟩
  · exact .inl ⟨h1, .inl ⟨h2, hCC _ hC⟩⟩
  · exact .inl ⟨h1, .inr (.inr ⟨f, args, h2, h3.mono fun _ _ ⟨he, hc⟩ => ⟨he, hCC _ hc⟩⟩)⟩
  · exact .inr ⟨h1, h2, hCC _ hC⟩
theorem plan_behind {q t : Nat} {fl : Nat → Bool} {C0 C1 : World → Prop} {es : List (Nat × Value)} {K : (Nat → Value) → Prop} (hB : twoB ops q t fl = true) : ∀ (l : List Oper) (i : Nat) (vals : Nat → Value), q < i → i + l.length ≤ t → plan P ops n C1 es K l i vals →
    splan P ops n (both q C0 C1) es K l i vals
  | [], _, _, _, _, h => h
  | o :: l, i, vals, hi, hl, h => by
    obtain ⟨v, h1, h2⟩ := h
    simp only [List.length_cons] at hl
    refine ⟨v, ?_, plan_behind hB l (i + 1) _ (by omega) (by omega) h2⟩
    intro S a w hp hs hSi hS hC
    have hr := List.all_eq_true.1 hB i (List.mem_range.2 (by omega))
    rw [if_neg (by omega), if_neg (by omega)] at hr
    have hq := hp q hr
    unfold both at hC
    rw [hq] at hC
    simp only [if_true] at hC
    exact (h1 a w hS hC).sy hC (fun w' hc => by
      unfold both
      rw [gput_ne _ _ (by omega), hq]
      exact hc)
theorem tplan_splan {q t : Nat} {fl : Nat → Bool} {C0 : World → Prop} {es : List (Nat × Value)} {K : (World → Prop) → (Nat → Value) → Prop} (hB : twoB ops q t fl = true) : ∀ (l : List Oper) (i : Nat) (vals : Nat → Value), i ≤ q → i + l.length ≤ t → tplan P ops n q fl C0 es K l i vals →
    ∃ C1, splan P ops n (both q C0 C1) es (K C1) l i vals
  | [], _, _, _, _, h => h.elim
  | o :: l, i, vals, hi, hl, h => by
    simp only [List.length_cons] at hl
    unfold tplan at h
    split at h
    · rename_i hiq
      subst hiq
      obtain ⟨C1, ⟨hd, hg, h1⟩, h2⟩ := h
      refine ⟨C1, undef, ?_, plan_behind hB l _ _ (by omega) (by omega) h2⟩
      intro S a w hp hs hSi hS hC
      unfold both at hC
      rw [hSi] at hC
      simp only [Bool.false_eq_true, if_false] at hC
      obtain ⟨w', h3, h4⟩ := h1 a w hS hC
      refine .inl ⟨by simp [Region.wanted, hg], .inr (.inl ⟨w', h3, hd, rfl, ?_⟩)⟩
      unfold both
      rw [gput_self]
      exact h4
    · rename_i hiq
      obtain ⟨v, h1, h2⟩ := h
      obtain ⟨C1, h3⟩ := tplan_splan hB l (i + 1) _ (by omega) (by omega) h2
      refine ⟨C1, v, ?_, h3⟩
      intro S a w hp hs hSi hS hC
      have hr := List.all_eq_true.1 hB i (List.mem_range.2 (by omega))
      rw [if_pos (by omega)] at hr
      split at h1
      · obtain ⟨hg, h1⟩ := h1
        refine .inl ⟨by simp [Region.wanted, hg], .inl ⟨h1 a w hS, ?_⟩⟩
        unfold both at hC ⊢
        rw [gput_ne _ _ (fun e => hiq e.symm)]
        exact hC
      · rename_i hfl
        simp only [hfl, Bool.false_or] at hr
        have hq := hs q hr
        unfold both at hC
        rw [hq] at hC
        simp only [Bool.false_eq_true, if_false] at hC
        exact (h1 a w hS hC).sy hC (fun w' hc => by
          unfold both
          rw [gput_ne _ _ (fun e => hiq e.symm), hq]
          exact hc)
theorem c_two {id : Nat} {a : Act} {w : World} {E : Nat → Option Value} (t q : Nat) (fl : Nat → Bool) (C0 : World → Prop) (es : List (Nat × Value)) (hm : P.follows .mixedOrders = true)
    (hB : ((lexicalB ops && tailB ops t && dstsOk n ops && outside (ops.take t) es && decide (t ≤ ops.length)) && (twoB ops q t fl && decide (q < t))) = true) (hS : Slots a n E) (hes : allIn E es) (hC : C0 { w with drawn := w.drawn + 1 })
    (h : tplan P ops n q fl C0 es (fun C1 vals => ∀ a w, Slots a n (env ((List.range t).filterMap (fun i => ((ops[i]?).bind (·.dst)).map (fun d => (d, vals i))) ++ es)) → C1 w → wpList P ops.toArray Q (ops.drop t) a w) (ops.take t) 0 (fun _ => undef)) :
    (Code.region id ops.toArray true).wp P Q a w := by
  rw [Bool.and_eq_true] at hB
  obtain ⟨hB1, hB2⟩ := hB
  simp only [Bool.and_eq_true, decide_eq_true_eq] at hB2
  obtain ⟨hB2, hqt⟩ := hB2
  have hle : t ≤ ops.length := by simp only [Bool.and_eq_true, decide_eq_true_eq] at hB1; exact hB1.2
  obtain ⟨C1, h1⟩ := tplan_splan hB2 _ _ _ (Nat.zero_le _) (by simp; omega) h
  refine c_splan t (both q C0 C1) es hm hB1 hS hes (by unfold both; exact hC) ?_
  have hK : (fun vals : Nat → Value => ∀ a w, Slots a n (env ((List.range t).filterMap (fun i => ((ops[i]?).bind (·.dst)).map (fun d => (d, vals i))) ++ es)) → both q C0 C1 (fun i => decide (i < t)) w → wpList P ops.toArray Q (ops.drop t) a w) =
      (fun vals : Nat → Value => ∀ a w, Slots a n (env ((List.range t).filterMap (fun i => ((ops[i]?).bind (·.dst)).map (fun d => (d, vals i))) ++ es)) → C1 w → wpList P ops.toArray Q (ops.drop t) a w) := by
    funext vals
    unfold both
    simp only [decide_eq_true hqt, if_true]
  rw [hK]
  exact h1
theorem t_step {q i : Nat} {fl : Nat → Bool} {C0 : World → Prop} {es : List (Nat × Value)} {K : (World → Prop) → (Nat → Value) → Prop} {l rest : List Oper} {o : Oper} {vals : Nat → Value} {v : Value} (hl : l = o :: rest) (hi : Nat.beq i q = false) (hf : fl i = false)
    (h : ∀ a w, Slots a n (predEnv ops o es vals) → C0 w → Yields P ops C0 o a w v) (hn : tplan P ops n q fl C0 es K rest (i + 1) (vput vals i v)) : tplan P ops n q fl C0 es K l i vals := by
  subst hl
  have : ¬ i = q := by intro e; subst e; rw [beq_self] at hi; cases hi
  unfold tplan
  rw [if_neg this]
  exact ⟨v, by rw [hf]; exact h, hn⟩
theorem t_float {q i : Nat} {fl : Nat → Bool} {C0 : World → Prop} {es : List (Nat × Value)} {K : (World → Prop) → (Nat → Value) → Prop} {l rest : List Oper} {o : Oper} {vals : Nat → Value} {v : Value} (hl : l = o :: rest) (hi : Nat.beq i q = false) (hf : fl i = true) (hg : o.guard = none)
    (h : ∀ a w, Slots a n (predEnv ops o es vals) → Run P a o w v) (hn : tplan P ops n q fl C0 es K rest (i + 1) (vput vals i v)) : tplan P ops n q fl C0 es K l i vals := by
  subst hl
  have : ¬ i = q := by intro e; subst e; rw [beq_self] at hi; cases hi
  unfold tplan
  rw [if_neg this]
  exact ⟨v, by rw [hf]; exact ⟨hg, h⟩, hn⟩
theorem t_write {q i : Nat} {fl : Nat → Bool} {C0 C1 : World → Prop} {es : List (Nat × Value)} {K : (World → Prop) → (Nat → Value) → Prop} {l rest : List Oper} {o : Oper} {vals : Nat → Value} (hl : l = o :: rest) (hi : Nat.beq i q = true) (hd : o.dst = none) (hg : o.guard = none)
    (h : ∀ a w, Slots a n (predEnv ops o es vals) → C0 w → ∃ w', (execOp a.eval o).run P w = .ok .skip w' ∧ C1 w') (hn : plan P ops n C1 es (K C1) rest (i + 1) (vput vals i undef)) : tplan P ops n q fl C0 es K l i vals := by
  subst hl
  have : i = q := Nat.eq_of_beq_eq_true hi
  unfold tplan
  rw [if_pos this]
  exact ⟨C1, ⟨hd, hg, h⟩, hn⟩
variable {a : Act} {w w0 : World} {E : Nat → Option Value} {L : List Blk}
variable {ty : TypeId} {pos : String} {af : Array Edge}
theorem e_store {t : TypeId} {x y : Operand} {b off j : Nat} {bt : TypeId} {cs : List Value} {u old : Value} (hS : Slots a n E) (hM : Mem w0 w L) (hx : ev E x = some (ptr b off)) (hy : ev E y = some u) (hj : L[j]? = some ⟨b, bt, cs⟩)
    (hs : (P.info? t).map (·.size) = some 1) (hv : u.oneCell' = true) (hold : cs[off]? = some old) :
    ∃ w', (execOp a.eval ⟨none, .store t x y, ty, pos, af, none⟩).run P w = .ok .skip w' ∧ Mem w0 w' (setAt L j (cs.set off u)) := by
  have hcells : u.cells = #[u] := by cases u <;> first | rfl | (simp [Value.oneCell'] at hv)
  have hst := run_storeOne (P := P) w b off u old hv (by rw [hM.cell hj]; exact hold) (hM.frozen hj off)
  have hadd : (⟨b, off, none⟩ : Addr).add 0 = ⟨b, off, none⟩ := Addr.add_lit ..
  refine ⟨w.setCell ⟨b, off, none⟩ u, ?_, hM.setCell hj off u⟩
  simp [execOp, hS.eval hx, hS.eval hy, Instr.storeAt, Instr.sureAddr, ptr, storeVar, hcells, run_sizeOf hs, storeCells, hadd, hst]
theorem e_storeU {t : TypeId} {x y : Operand} {b i j m : Nat} {bt : TypeId} {f : Nat → BitVec 64} {v : BitVec 64} (hS : Slots a n E) (hM : Mem w0 w L) (hx : ev E x = some (ptr b i)) (hy : ev E y = some (U v)) (hj : L[j]? = some ⟨b, bt, cU m f⟩)
    (hs : (P.info? t).map (·.size) = some 1) (hi : i < m) : ∃ w', (execOp a.eval ⟨none, .store t x y, ty, pos, af, none⟩).run P w = .ok .skip w' ∧ Mem w0 w' (setAt L j (cU m (upd f i v))) := by
  have := e_store (P := P) (ty := ty) (pos := pos) (af := af) hS hM hx hy hj hs rfl (cells_get hi)
  rwa [cU_set] at this
end
end Go.Sym
namespace Go.Sym
open Go Go.RowKit
section
variable {P : Program} {Q : Exit → Act → World → Prop} {n : Nat} {ops : List Oper}
def VYields (P : Program) (ops : List Oper) (o : Oper) (a : Act) (w : World) (R : Value → World → Prop) : Prop :=
  (Region.wanted o (yielded ops.toArray a.tmps) = true ∧
    ((∃ v w', ((execOp a.eval o).run P w = .ok (.value v) w' ∨ ((execOp a.eval o).run P w = .ok .skip w' ∧ o.dst = none ∧ v = undef)) ∧ R v w') ∨
     ∃ f args, (execOp a.eval o).run P w = .ok (.enter f args) w ∧ Calls P f args w (fun e w' => ∃ v, e = .returned v ∧ R v w'))) ∨
  (Region.wanted o (yielded ops.toArray a.tmps) = false ∧ R undef w)
def vowe (P : Program) (ops : List Oper) (n : Nat) (C : (Nat → Bool) → (Nat → Value) → World → Prop) (es : List (Nat × Value)) (R : Nat → (Nat → Value) → Prop) (i : Nat) (o : Oper) : Prop :=
  ∀ (S : Nat → Bool) (V : Nat → Value) (a : Act) (w : World), (∀ j, (reach ops (ops.length + 1) i).contains j = true → S j = true) → (∀ k, (reach ops (ops.length + 1) k).contains i = true → S k = false) → S i = false →
    (∀ j, (reach ops (ops.length + 1) i).contains j = true → R j (msk undef ops j V)) → Slots a n (predEnv ops o es V) → C S V w →
    VYields P ops o a w (fun v w' => R i (msk undef ops i (gput V i v)) ∧ C (gput S i true) (gput V i v) w')
def vplan (P : Program) (ops : List Oper) (n : Nat) (C : (Nat → Bool) → (Nat → Value) → World → Prop) (es : List (Nat × Value)) (R : Nat → (Nat → Value) → Prop) : List Oper → Nat → Prop
  | [], _ => True
  | o :: rest, i => vowe P ops n C es R i o ∧ vplan P ops n C es R rest (i + 1)
theorem vplan_get {C : (Nat → Bool) → (Nat → Value) → World → Prop} {es : List (Nat × Value)} {R : Nat → (Nat → Value) → Prop} : ∀ {l : List Oper} {k : Nat}, vplan P ops n C es R l k → ∀ i o, l[i]? = some o → vowe P ops n C es R (k + i) o
  | [], _, _, i, o, h => by simp at h
  | o' :: l, k, hp, 0, o, h => by simp at h; subst h; exact hp.1
  | o' :: l, k, hp, i + 1, o, h => by
    simp only [List.getElem?_cons_succ] at h
    have := vplan_get hp.2 i o h
    rw [show k + (i + 1) = k + 1 + i by omega]
    exact this
set_option maxHeartbeats 1000000 in
theorem c_vplan {id : Nat} {a : Act} {w : World} {E : Nat → Option Value} (t : Nat) (C : (Nat → Bool) → (Nat → Value) → World → Prop) (es : List (Nat × Value)) (R : Nat → (Nat → Value) → Prop) (hm : P.follows .mixedOrders = true)
    (hB : (lexicalB ops && tailB ops t && dstsOk n ops && outside (ops.take t) es && decide (t ≤ ops.length) && decide (0 < t)) = true) (hS : Slots a n E) (hes : allIn E es) (hC : C (fun _ => false) (fun _ => undef) { w with drawn := w.drawn + 1 })
    (h : vplan P ops n C es R (ops.take t) 0)
    (hK : ∀ (V : Nat → Value) (a : Act) (w : World), (∀ i, i < t → R i (msk undef ops i V)) →
      Slots a n (env ((List.range t).filterMap (fun i => ((ops[i]?).bind (·.dst)).map (fun d => (d, V i))) ++ es)) →
      C (fun i => decide (i < t)) V w → wpList P ops.toArray Q (ops.drop t) a w) :
    (Code.region id ops.toArray true).wp P Q a w := by
  simp only [Bool.and_eq_true, decide_eq_true_eq] at hB
  obtain ⟨⟨⟨⟨⟨hlex, htail⟩, hdst⟩, hout⟩, hle⟩, ht0⟩ := hB
  have hlex' := lexicalB_spec hlex
  have hall : ∀ i o, i < t → ops[i]? = some o → vowe P ops n C es R i o := by
    intro i o hi ho
    have := vplan_get h i o (by rw [List.getElem?_take, if_pos hi]; exact ho)
    simpa using this
  refine wp_region_any hm ?_
  refine wpAny_inv (fun S a w => S.size = ops.length ∧ (∀ i o, ops[i]? = some o → S.getD i false = true → ∀ e ∈ o.after, Region.binds .any e = true → S.getD e.on false = true) ∧
    (((∃ i, i < t ∧ S.getD i false = false) ∧ ∃ V, Held a n ops es V (fun i => S.getD i false && decide (i < t)) ∧ (∀ i, i < t → S.getD i false = true → R i (msk undef ops i V)) ∧ C (fun i => S.getD i false) V w) ∨
     (∃ j, t ≤ j ∧ (∀ i, i < j → i < ops.length → S.getD i false = true) ∧ (∀ i, j ≤ i → S.getD i false = false) ∧ wpList P ops.toArray Q (ops.drop j) a w))) ?_ ?_ ?_ _ _ _ _ ?_ ?_
  · intro S a w i hi ⟨hsz, hcl, hI⟩
    obtain ⟨hun, o, ho, hpre⟩ := mem_ready.1 hi
    have ho' : ops[i]? = some o := by simpa using ho
    have hilt : i < ops.length := (List.getElem?_eq_some_iff.1 ho').1
    have hun' : S.getD i false = false := both_of hun
    have hcl' : ∀ k o, ops[k]? = some o → (S.setIfInBounds i true).getD k false = true → ∀ e ∈ o.after, Region.binds .any e = true → (S.setIfInBounds i true).getD e.on false = true := by
      intro k ok hk hSk e he hb
      refine getD_set_true ?_
      by_cases hki : i = k
      · subst hki
        have : ok = o := Option.some.inj (hk.symm.trans ho')
        subst this
        exact hpre e he hb
      · rw [getD_set_ne false hki] at hSk
        exact hcl k ok hk hSk e he hb
    have hreach : ∀ k ok, ops[k]? = some ok → (∀ e ∈ ok.after, Region.binds .any e = true → S.getD e.on false = true) → ∀ j, (reach ops (ops.length + 1) k).contains j = true → S.getD j false = true := by
      intro k ok hk hp j hj
      exact reach_closed (S := fun k => S.getD k false) hcl _ k (fun o2 ho2 e he hb => by
        have : o2 = ok := Option.some.inj (ho2.symm.trans hk)
        subst this
        exact hp e he hb) j (by simpa using hj)
    have hsink : t ≤ i → ∀ j, j < i → S.getD j false = true := by
      intro hti j hji
      have h1 := List.all_eq_true.1 htail i (List.mem_range.2 hilt)
      simp only [Bool.or_eq_true, decide_eq_true_eq] at h1
      rcases h1 with h1 | h1
      · omega
      · exact hreach i o ho' hpre j (List.all_eq_true.1 h1 j (List.mem_range.2 hji))
    rcases hI with ⟨⟨k, hkt, hk⟩, V, hH, hR, hCw⟩ | ⟨j, htj, hj1, hj2, hwp⟩
    · have hit : i < t := by
        rcases Nat.lt_or_ge i t with h | h
        · exact h
        · have := hsink h k (by omega)
          rw [hk] at this; cases this
      have hrl : ∀ j, (reach ops (ops.length + 1) i).contains j = true → j < t ∧ S.getD j false = true := by
        intro j hj
        have hSj := hreach i o ho' hpre j hj
        have hji : j < i := by
          have key : ∀ (f k : Nat), (∀ ok, ops[k]? = some ok → ∀ e ∈ ok.after, Region.binds .any e = true → e.on < k) → ∀ j ∈ reach ops f k, j < k := by
            intro f
            induction f with
            | zero => intro k _ j hj; simp [reach] at hj
            | succ f ih =>
              intro k hk j hj
              simp only [reach] at hj
              cases hok : ops[k]? with
              | none => simp [hok] at hj
              | some ok =>
                simp only [hok, List.mem_flatMap] at hj
                obtain ⟨e, he, hj⟩ := hj
                split at hj
                · rename_i hb
                  have hlt := hk ok hok e (Array.mem_toList_iff.1 he) hb
                  rcases List.mem_cons.1 hj with rfl | hj
                  · exact hlt
                  · have := ih e.on (fun ok' hok' e' he' hb' => hlex' e.on ok' hok' e' he' hb') j hj
                    omega
                · cases hj
          exact key _ i (fun ok hok e he hb => hlex' i ok hok e he hb) j (by simpa using hj)
        exact ⟨by omega, hSj⟩
      have hY := hall i o hit ho' (fun i => S.getD i false) V a w (fun j hj => (hrl j hj).2)
        (fun k hk => by
          cases hSk : S.getD k false with
          | false => rfl
          | true =>
            exfalso
            have hkl : k < ops.length := by
              rcases Nat.lt_or_ge k ops.length with h | h
              · exact h
              · rw [Array.getD_eq_getD_getElem?, Array.getElem?_eq_none (by omega)] at hSk
                cases hSk
            have h3 := hreach k ops[k] (List.getElem?_eq_getElem hkl) (hcl k ops[k] (List.getElem?_eq_getElem hkl) hSk) i hk
            rw [hun'] at h3; cases h3) hun'
        (fun j hj => hR j (hrl j hj).1 (hrl j hj).2)
        (hH.slots (o := o) (fun e he hb => by
          have h1 := hpre e he hb
          have h2 := hlex' i o ho' e he hb
          simp only [h1, Bool.true_and, decide_eq_true_eq]
          omega)) hCw
      have heq : ∀ k, (S.setIfInBounds i true).getD k false = (bif Nat.beq k i then true else S.getD k false) := by
        intro k
        by_cases hki : k = i
        · subst hki
          rw [show Nat.beq k k = true from beq_self _]
          have : k < S.size := by omega
          simp [Array.getD_eq_getD_getElem?, this]
        · rw [beq_ne hki, getD_set_ne false (fun e => hki e.symm)]
          rfl
      have hSS : (fun i' => (S.setIfInBounds i true).getD i' false) = gput (fun k => S.getD k false) i true := funext heq
      have hnext : ∀ v w', (R i (msk undef ops i (gput V i v)) ∧ C (gput (fun k => S.getD k false) i true) (gput V i v) w') → (S.setIfInBounds i true).size = ops.length ∧ (∀ k o, ops[k]? = some o → (S.setIfInBounds i true).getD k false = true → ∀ e ∈ o.after, Region.binds .any e = true → (S.setIfInBounds i true).getD e.on false = true) ∧
          (((∃ i', i' < t ∧ (S.setIfInBounds i true).getD i' false = false) ∧ ∃ V, Held (a.put o.dst v) n ops es V (fun i' => (S.setIfInBounds i true).getD i' false && decide (i' < t)) ∧ (∀ i', i' < t → (S.setIfInBounds i true).getD i' false = true → R i' (msk undef ops i' V)) ∧ C (fun i' => (S.setIfInBounds i true).getD i' false) V w') ∨
           (∃ j, t ≤ j ∧ (∀ i', i' < j → i' < ops.length → (S.setIfInBounds i true).getD i' false = true) ∧ (∀ i', j ≤ i' → (S.setIfInBounds i true).getD i' false = false) ∧ wpList P ops.toArray Q (ops.drop j) (a.put o.dst v) w')) := by
        rintro v w' ⟨hRi, hCi⟩
        rw [← hSS] at hCi
        refine ⟨by simpa using hsz, hcl', ?_⟩
        have hH1 := (hH.vput (i := i) (by simp only [hun', Bool.false_and]) v).done (outside_spec hout (mem_take hit ho')) hdst ho'
        rw [gput_self] at hH1
        have hH'' : Held (a.put o.dst v) n ops es (gput V i v) (fun k => (S.setIfInBounds i true).getD k false && decide (k < t)) := by
          refine ⟨hH1.defers, hH1.size, hH1.outer, fun k ok d hk hd hSk => hH1.inner k ok d hk hd ?_⟩
          simp only [Bool.and_eq_true, decide_eq_true_eq, heq] at hSk
          cases hb : Nat.beq k i with
          | true => rfl
          | false => rw [hb] at hSk; simp only [cond_false] at hSk ⊢; simp [hSk.1, hSk.2]
        have hR' : ∀ i', i' < t → (S.setIfInBounds i true).getD i' false = true → R i' (msk undef ops i' (gput V i v)) := by
          intro i' hi' hSi'
          by_cases hii : i' = i
          · subst hii; exact hRi
          · rw [getD_set_ne false (fun e => hii e.symm)] at hSi'
            have hne : ∀ j, (j = i' ∨ (reach ops (ops.length + 1) i').contains j = true) → j ≠ i := by
              rintro j (rfl | hj) e
              · exact hii e
              · subst e
                obtain ⟨oi', hoi'⟩ : ∃ oi', ops[i']? = some oi' := ⟨ops[i']'(by omega), by simp⟩
                have := hreach i' oi' hoi' (hcl i' oi' hoi' hSi') j hj
                rw [hun'] at this; cases this
            rw [msk_congr (V := gput V i v) (V' := V) (fun j hj => gput_ne _ _ (hne j hj))]
            exact hR i' hi' hSi'
        by_cases hmore : ∃ k, k < t ∧ (S.setIfInBounds i true).getD k false = false
        · exact .inl ⟨hmore, _, hH'', hR', hCi⟩
        · have hfull : ∀ k, k < t → (S.setIfInBounds i true).getD k false = true := by
            intro k hk
            cases hb : (S.setIfInBounds i true).getD k false with
            | true => rfl
            | false => exact absurd ⟨k, hk, hb⟩ hmore
          have hnot : ∀ k, t ≤ k → (S.setIfInBounds i true).getD k false = false := by
            intro k hk
            have hki : i ≠ k := by omega
            rw [getD_set_ne false hki]
            cases hb : S.getD k false with
            | false => rfl
            | true =>
              exfalso
              have hkl : k < ops.length := by
                rcases Nat.lt_or_ge k ops.length with h | h
                · exact h
                · rw [Array.getD_eq_getD_getElem?, Array.getElem?_eq_none (by omega)] at hb
                  cases hb
              have h1 := List.all_eq_true.1 htail k (List.mem_range.2 hkl)
              simp only [Bool.or_eq_true, decide_eq_true_eq] at h1
              rcases h1 with h1 | h1
              · omega
              · have h2 := List.all_eq_true.1 h1 i (List.mem_range.2 (by omega))
                obtain ⟨ok, hok⟩ : ∃ ok, ops[k]? = some ok := ⟨ops[k], by simp⟩
                have := hreach k ok hok (hcl k ok hok hb) i h2
                rw [hun'] at this; cases this
          refine .inr ⟨t, Nat.le_refl _, fun k hk _ => hfull k hk, hnot, ?_⟩
          · refine hK _ _ _ (fun i' hi' => hR' i' hi' (hfull i' hi')) ⟨hH''.defers, hH''.size, fun d u hv => ?_⟩ ?_
            · rcases env_append_spec hv with ⟨p, hp, h1, h2⟩ | hv
              · rw [List.mem_filterMap] at hp
                obtain ⟨k, hk, hpk⟩ := hp
                have hkt := List.mem_range.1 hk
                cases hok : ops[k]? with
                | none => simp [hok] at hpk
                | some ok =>
                  cases hdk : ok.dst with
                  | none => simp [hok, hdk] at hpk
                  | some dk =>
                    simp [hok, hdk] at hpk
                    subst hpk
                    simp only at h1 h2
                    subst h1 h2
                    refine hH''.inner k ok dk hok hdk ?_
                    simp only [hfull k hkt, hkt, decide_true, Bool.and_self]
              · exact hH''.outer d u hv
            · have h5 : (fun i' => (S.setIfInBounds i true).getD i' false) = fun i => decide (i < t) := by
                funext k
                by_cases hk : k < t
                · rw [hfull k hk]; simp [hk]
                · rw [hnot k (by omega)]; simp [hk]
              rw [← h5]
              exact hCi
      unfold wpOp
      simp only [ho]
      rcases hY with ⟨hw, hY⟩ | ⟨hw, hv⟩
      · rw [if_pos hw]
        refine .inl ?_
        unfold Oper.wp
        rcases hY with ⟨v, w', hY | ⟨hY, hnd, rfl⟩, hRi⟩ | ⟨f, args, hY, hcall⟩
        · rw [hY]
          exact hnext v w' hRi
        · rw [hY, Oper.upon_skip]
          exact hnext undef w' hRi
        · rw [hY, Oper.upon_enter]
          refine hcall.mono ?_
          rintro e w' ⟨v, rfl, hRi⟩
          exact hnext v w' hRi
      · rw [if_neg (by rw [hw]; simp)]
        exact hnext undef w hv
    · have hij : i = j := by
        rcases Nat.lt_trichotomy i j with h | h | h
        · have := hj1 i h hilt
          rw [hun'] at this; cases this
        · exact h
        · have := hsink (by omega) j h
          rw [hj2 j (Nat.le_refl _)] at this; cases this
      subst hij
      have hdrop : ops.drop i = o :: ops.drop (i + 1) := by
        rw [List.drop_eq_getElem_cons hilt]
        congr 1
        exact Option.some.inj ((List.getElem?_eq_getElem hilt).symm.trans ho')
      rw [hdrop] at hwp
      have hgo : ∀ a' w', wpList P ops.toArray Q (ops.drop (i + 1)) a' w' → (S.setIfInBounds i true).size = ops.length ∧ (∀ k o, ops[k]? = some o → (S.setIfInBounds i true).getD k false = true → ∀ e ∈ o.after, Region.binds .any e = true → (S.setIfInBounds i true).getD e.on false = true) ∧
          (((∃ i', i' < t ∧ (S.setIfInBounds i true).getD i' false = false) ∧ ∃ V, Held a' n ops es V (fun i' => (S.setIfInBounds i true).getD i' false && decide (i' < t)) ∧ (∀ i', i' < t → (S.setIfInBounds i true).getD i' false = true → R i' (msk undef ops i' V)) ∧ C (fun i' => (S.setIfInBounds i true).getD i' false) V w') ∨
           (∃ j, t ≤ j ∧ (∀ i', i' < j → i' < ops.length → (S.setIfInBounds i true).getD i' false = true) ∧ (∀ i', j ≤ i' → (S.setIfInBounds i true).getD i' false = false) ∧ wpList P ops.toArray Q (ops.drop j) a' w')) := by
        intro a' w' h
        refine ⟨by simpa using hsz, hcl', .inr ⟨i + 1, by omega, ?_, ?_, h⟩⟩
        · intro k hk hkl
          by_cases hki : i = k
          · subst hki
            have : i < S.size := by omega
            simp [Array.getD_eq_getD_getElem?, this]
          · exact getD_set_true (hj1 k (by omega) hkl)
        · intro k hk
          rw [getD_set_ne false (by omega)]
          exact hj2 k (by omega)
      unfold wpOp
      simp only [ho]
      unfold wpList at hwp
      split at hwp
      · rename_i hw
        rw [if_pos hw]
        rcases hwp with h | h
        · exact .inl (Oper.wp_mono (fun a' w' h => hgo a' w' h) h)
        · exact .inr h
      · rename_i hw
        rw [if_neg hw]
        exact hgo _ _ hwp
  · intro S a w hr ⟨hsz, hcl, hI⟩
    have hfull : ∀ i, i < ops.length → S.getD i false = true := by
      intro i
      induction i using Nat.strongRecOn with
      | _ i ih =>
        intro hi
        cases hb : S.getD i false with
        | true => rfl
        | false =>
          exfalso
          have : i ∈ Region.ready .any ops.toArray S := by
            rw [mem_ready]
            refine ⟨in_of (by omega) hb, ops[i], by simp [hi], fun e he hbi => ?_⟩
            have hlt := hlex' i ops[i] (List.getElem?_eq_getElem hi) e he hbi
            exact ih e.on hlt (by omega)
          rw [hr] at this; cases this
    rcases hI with ⟨⟨k, hkt, hk⟩, _⟩ | ⟨j, htj, hj1, hj2, hwp⟩
    · rw [hfull k (by omega)] at hk; cases hk
    · have : ops.length ≤ j := by
        rcases Nat.lt_or_ge j ops.length with h | h
        · have := hj2 j (Nat.le_refl _); rw [hfull j h] at this; cases this
        · exact h
      rw [List.drop_eq_nil_of_le this] at hwp
      exact hwp
  · intro S a w hI
    simpa using hI.1
  · simpa using (List.length_filter_le _ (List.range ops.length))
  · have hrep : ∀ i, (Array.replicate ops.toArray.size false).getD i false = false := fun i => replicate_false _ _
    refine ⟨by simp, fun i o _ hi => (by rw [hrep] at hi; cases hi), .inl ⟨⟨0, ht0, hrep 0⟩, fun _ => undef, ?_, ?_, ?_⟩⟩
    · refine ⟨hS.defers, hS.size, fun i v hv => (hS.to es hes).get i v hv, fun i o d _ _ hi => ?_⟩
      simp only [Bool.and_eq_true] at hi
      rw [hrep] at hi; cases hi.1
    · intro i _ hi; rw [hrep] at hi; cases hi
    · rw [show (fun i => (Array.replicate ops.toArray.size false).getD i false) = fun _ => false from funext hrep]
      exact hC
end
section
variable {P : Program} {ops : List Oper} {n : Nat} {o : Oper} {a : Act} {w w0 : World} {R : Value → World → Prop} {E : Nat → Option Value} {v : Value} {L : List Blk}
theorem vy_val (hg : o.guard = none) (hr : Run P a o w v) (hR : R v w) : VYields P ops o a w R := .inl ⟨by simp [Region.wanted, hg], .inl ⟨v, w, .inl hr, hR⟩⟩
theorem vy_skipop {w' : World} (hg : o.guard = none) (hd : o.dst = none) (hr : (execOp a.eval o).run P w = .ok .skip w') (hR : R undef w') : VYields P ops o a w R := .inl ⟨by simp [Region.wanted, hg], .inl ⟨undef, w', .inr ⟨hr, hd, rfl⟩, hR⟩⟩
variable {dst : Option Nat} {ty : TypeId} {pos : String} {af : Array Edge} {g : Option (Nat × Bool)}
theorem vy_alloc {t : TypeId} {cs : List Value} (hz : Zero P t cs) (hM : Mem w0 w L) (hR : ∀ b w', w0.heap.size ≤ b → Mem w0 w' (⟨b, t, cs⟩ :: L) → R (ptr b 0) w') : VYields P ops ⟨dst, .alloc t, ty, pos, af, none⟩ a w R :=
  .inl ⟨by simp [Region.wanted], .inl ⟨ptr w.heap.size 0, _, .inl (by simp [execOp, hz w]), hR _ _ hM.size (hM.alloc t cs)⟩⟩
theorem vy_pure {f : FuncId} {xs : List Operand} {ats : Array TypeId} {vs : List Value} (hS : Slots a n E) (hx : evs E xs = some vs) (hc : Pure P f vs.toArray w v) (hM : Mem w0 w L) (hR : ∀ w', Mem w0 w' L → R v w') :
    VYields P ops ⟨dst, .call ⟨.value (.func f), xs.toArray, ats⟩, ty, pos, af, none⟩ a w R :=
  .inl ⟨by simp [Region.wanted], .inr ⟨f, _, run_call hc.ok hS hx, hc.calls.mono fun _ _ ⟨he, hm⟩ => ⟨v, he, hR _ (hM.after hm)⟩⟩⟩
theorem vy_storeAll {t : TypeId} {x y : Operand} {b j m : Nat} {bt : TypeId} {cs vs : List Value} (hS : Slots a n E) (hM : Mem w0 w L) (hx : ev E x = some (ptr b 0)) (hy : ev E y = some (.agg vs.toArray)) (hj : L[j]? = some ⟨b, bt, cs⟩)
    (hs : (P.info? t).map (·.size) = some m) (hvs : vs.length = m) (hcs : cs.length = m) (hv : ∀ v ∈ vs, v.oneCell' = true) (hR : ∀ w', Mem w0 w' (setAt L j vs) → R undef w') : VYields P ops ⟨none, .store t x y, ty, pos, af, none⟩ a w R := by
  obtain ⟨w', h1, h2⟩ := storeCells_run (P := P) vs cs 0 0 w hM hj hv (by omega)
  rw [Nat.zero_add, splice_all vs cs (by omega)] at h2
  refine vy_skipop rfl rfl ?_ (hR w' h2)
  simp [execOp, hS.eval hx, hS.eval hy, Instr.storeAt, Instr.sureAddr, ptr, storeVar, Value.cells, run_sizeOf (by rw [hs, hvs] : (P.info? t).map (·.size) = some vs.length), h1]
theorem vy_pureA {f : FuncId} {xs : List Operand} {ats : Array TypeId} {vs : List Value} (hS : Slots a n E) (hx : evs E xs = some vs) (hc : Pure P f vs.toArray w v) (hR : ∀ w', Mem w w' [] → R v w') :
    VYields P ops ⟨dst, .call ⟨.value (.func f), xs.toArray, ats⟩, ty, pos, af, none⟩ a w R :=
  .inl ⟨by simp [Region.wanted], .inr ⟨f, _, run_call hc.ok hS hx, hc.calls.mono fun _ _ ⟨he, hm⟩ => ⟨v, he, hR _ hm⟩⟩⟩
end
def pb : Value → Nat
  | .pointer (some x) => x.block
  | _ => 0
def AL (w0 : World) (p q : Nat) (T : TypeId) (z s : List Value) (L : List Blk) (S : Nat → Bool) (V : Nat → Value) (w : World) : Prop :=
  if S p then w0.heap.size ≤ pb (V p) ∧ Mem w0 w (⟨pb (V p), T, if S q then s else z⟩ :: L) else Mem w0 w L
section
variable {w w' w0 : World} {p q i : Nat} {T : TypeId} {z s : List Value} {L : List Blk} {S : Nat → Bool} {V : Nat → Value} {v : Value}
theorem AL.start (h : Mem w0 w L) : AL w0 p q T z s L (fun _ => false) V w := by unfold AL; exact h
theorem AL.low (h : AL w0 p q T z s L S V w) : Mem w0 w L := by
  unfold AL at h
  split at h
  · exact h.2.drop h.1
  · exact h
theorem AL.keep (h : AL w0 p q T z s L S V w) (hp : Nat.beq p i = false) (hq : Nat.beq q i = false) : AL w0 p q T z s L (gput S i true) (gput V i v) w := by
  unfold AL at h ⊢
  unfold gput
  rw [hp, hq]
  exact h
theorem AL.after (h : AL w0 p q T z s L S V w) (hm : Mem w w' []) : AL w0 p q T z s L S V w' := by
  unfold AL at h ⊢
  split
  · rename_i hp
    rw [if_pos hp] at h
    exact ⟨h.1, h.2.after hm⟩
  · rename_i hp
    rw [if_neg hp] at h
    exact h.after hm
theorem AL.made {b : Nat} (hq : S q = false) (hpq : Nat.beq q p = false) (hb : w0.heap.size ≤ b) (hM : Mem w0 w' (⟨b, T, z⟩ :: L)) : AL w0 p q T z s L (gput S p true) (gput V p (ptr b 0)) w' := by
  unfold AL
  rw [gput_self, gput_self, show gput S p true q = false by unfold gput; rw [hpq]; exact hq]
  exact ⟨hb, hM⟩
theorem AL.made0 {b : Nat} (hb : w0.heap.size ≤ b) (hM : Mem w0 w' (⟨b, T, z⟩ :: L)) : AL w0 p q T z z L (gput S p true) (gput V p (ptr b 0)) w' := by
  unfold AL
  rw [gput_self, gput_self, ite_self]
  exact ⟨hb, hM⟩
theorem AL.ahead (h : AL w0 p q T z s L S V w) (hp : S p = true) (hq : S q = false) : Mem w0 w (⟨pb (V p), T, z⟩ :: L) := by
  unfold AL at h
  rw [if_pos hp, hq] at h
  exact h.2
theorem AL.wrote (h : AL w0 p q T z s L S V w) (hp : S p = true) (hpq : Nat.beq p q = false) (hM : Mem w0 w' (⟨pb (V p), T, s⟩ :: L)) : AL w0 p q T z s L (gput S q true) (gput V q v) w' := by
  unfold AL at h ⊢
  rw [if_pos hp] at h
  rw [show gput S q true p = true by unfold gput; rw [hpq]; exact hp, gput_self, show gput V q v p = V p by unfold gput; rw [hpq]; rfl]
  exact ⟨h.1, hM⟩
theorem AL.stop (h : AL w0 p q T z s L S V w) (hp : S p = true) (hq : S q = true) : w0.heap.size ≤ pb (V p) ∧ Mem w0 w (⟨pb (V p), T, s⟩ :: L) := by
  unfold AL at h
  rw [if_pos hp, if_pos hq] at h
  exact h
theorem AL.stop0 (h : AL w0 p q T z s L S V w) (hp : S p = true) (hq : S q = false) : w0.heap.size ≤ pb (V p) ∧ Mem w0 w (⟨pb (V p), T, z⟩ :: L) := by
  unfold AL at h
  rw [if_pos hp, hq] at h
  exact h
end
end Go.Sym
namespace Go.Sym
open Go Go.RowKit
section
variable {P : Program} {Q : Exit → Act → World → Prop} {a : Act} {w w0 : World} {n : Nat} {E : Nat → Option Value} {L : List Blk} {ops : Array Oper} {rest : List Oper}
variable {ty : TypeId} {pos : String} {af : Array Edge}
structure NewRow (P : Program) (f : FuncId) (args : Array Value) (w : World) (el : TypeId) (m : Nat) (F : Nat → Value) : Prop where
  ok : callable P f = true
  calls : Calls P f args w fun e w' => ∃ b, e = .returned (.slice (some ⟨b, 0, none⟩) m m) ∧ w.heap.size ≤ b ∧ Mem w w' [⟨b, el, cells m F⟩]
theorem newrow_end {b m : Nat} {el : TypeId} {F : Nat → Value} (hb : w0.heap.size ≤ b) (hM : Mem w0 w [⟨b, el, cells m F⟩]) : ∃ b', Ending.returned (.slice (some ⟨b, 0, none⟩) m m) = .returned (.slice (some ⟨b', 0, none⟩) m m) ∧ w0.heap.size ≤ b' ∧ Mem w0 w [⟨b', el, cells m F⟩] := ⟨b, rfl, hb, hM⟩
structure Wrote (P : Program) (f : FuncId) (args : Array Value) (w : World) (b : Nat) (t : TypeId) (cs : List Value) (v : Value) : Prop where
  ok : callable P f = true
  calls : Calls P f args w fun e w' => e = .returned v ∧ Mem w w' [⟨b, t, cs⟩]
theorem Mem.start {b : Nat} {t : TypeId} {cs : List Value} (h : w.heap[b]? = some (.cells cs.toArray t (0, 0))) : Mem w w [⟨b, t, cs⟩] :=
  ⟨rfl, rfl, rfl, Nat.le_refl _, fun _ _ _ => rfl, fun e he => by simp only [List.mem_singleton] at he; subst he; exact h, by simp⟩
theorem Mem.block {b j : Nat} {t : TypeId} {cs : List Value} (hM : Mem w0 w L) (hj : L[j]? = some ⟨b, t, cs⟩) : w.heap[b]? = some (.cells cs.toArray t (0, 0)) := hM.have_ _ (mem_of_get hj)
theorem block_lt {b : Nat} {o : Obj} (h : w.heap[b]? = some o) : b < w.heap.size := (Array.getElem?_eq_some_iff.1 h).1
theorem s_wrote {f : FuncId} {xs : List Operand} {ats : Array TypeId} {vs : List Value} {d b j : Nat} {t : TypeId} {cs cs' : List Value} {v : Value} (hS : Slots a n E) (hM : Mem w0 w L) (hd : d < n) (hx : evs E xs = some vs) (hj : L[j]? = some ⟨b, t, cs⟩) (hc : Wrote P f vs.toArray w b t cs' v)
    (h : ∀ a w, Slots a n (put E d v) → Mem w0 w (setAt L j cs') → wpList P ops Q rest a w) : wpList P ops Q (⟨some d, .call ⟨.value (.func f), xs.toArray, ats⟩, ty, pos, af, none⟩ :: rest) a w :=
  s_call hc.ok hS hd hx hc.calls (by
    rintro e w' ⟨rfl, hm⟩
    exact ⟨_, rfl, fun a hS => h a w' hS (hM.wrote hj hm)⟩)
variable {opl : List Oper} {R : Value → List Blk → World → Prop} {dst : Option Nat}
end
end Go.Sym
namespace Go.Sym
open Go Go.RowKit
section
variable {P : Program} {Q : Exit → Act → World → Prop} {a : Act} {w w0 : World} {n : Nat} {E : Nat → Option Value} {L Lx : List Blk} {ops : Array Oper} {rest : List Oper}
variable {dst : Option Nat} {ty : TypeId} {pos : String} {af : Array Edge} {g : Option (Nat × Bool)}
theorem Mem.same {b : Nat} {t : TypeId} {cs : List Value} {L : List Blk} (hb : w0.heap[b]? = some (.cells cs.toArray t (0, 0))) (hM : Mem w0 w (⟨b, t, cs⟩ :: L)) : Mem w0 w L :=
  ⟨hM.os, hM.tape, hM.output, hM.size, fun k hk hne => by
    by_cases h : k = b
    · subst h
      rw [hM.have_ ⟨k, t, cs⟩ (by simp), hb]
    · exact hM.old k hk (fun e he => by
        rcases List.mem_cons.1 he with rfl | he
        · exact fun e => h e.symm
        · exact hne e he), fun e he => hM.have_ e (List.mem_cons_of_mem _ he), by
      have := hM.nodup
      rw [List.map_cons, List.nodup_cons] at this
      exact this.2⟩
structure NewObj (P : Program) (f : FuncId) (args : Array Value) (w : World) (t : TypeId) (cs : List Value) : Prop where
  ok : callable P f = true
  calls : Calls P f args w fun e w' => ∃ b, e = .returned (ptr b 0) ∧ w.heap.size ≤ b ∧ Mem w w' [⟨b, t, cs⟩]
theorem newobj_end {b : Nat} {t : TypeId} {cs : List Value} (hb : w0.heap.size ≤ b) (hM : Mem w0 w [⟨b, t, cs⟩]) : ∃ b', Ending.returned (ptr b 0) = .returned (ptr b' 0) ∧ w0.heap.size ≤ b' ∧ Mem w0 w [⟨b', t, cs⟩] := ⟨b, rfl, hb, hM⟩
theorem s_newobj {f : FuncId} {xs : List Operand} {ats : Array TypeId} {vs : List Value} {d : Nat} {t : TypeId} {cs : List Value} (hS : Slots a n E) (hM : Mem w0 w L) (hd : d < n) (hx : evs E xs = some vs) (hc : NewObj P f vs.toArray w t cs)
    (h : ∀ a w b, w0.heap.size ≤ b → Slots a n (put E d (ptr b 0)) → Mem w0 w (⟨b, t, cs⟩ :: L) → wpList P ops Q rest a w) : wpList P ops Q (⟨some d, .call ⟨.value (.func f), xs.toArray, ats⟩, ty, pos, af, none⟩ :: rest) a w :=
  s_call hc.ok hS hd hx hc.calls (by
    rintro e w' ⟨b, rfl, hb, hm⟩
    exact ⟨_, rfl, fun a hS => h a w' b (Nat.le_trans hM.size hb) hS (hM.after1 hm hb)⟩)
theorem r_ptrNil {t t' pe : TypeId} {x y : Operand} {b off : Nat} (hS : Slots a n E) (hx : ev E x = some (ptr b off)) (hy : ev E y = some (.pointer none)) (hT : P.underlying t = some (.pointer pe)) : Run P a ⟨dst, .binOp .eql t x y t', ty, pos, af, g⟩ w (.bool false) := by
  have hp : P.underlying t = some (.pointer (P.pointee t)) := by unfold Program.pointee; rw [hT]
  have h := run_eql_pointer_nil (P := P) (w := w) t (some ⟨b, off, none⟩) hp
  simp [Run, execOp, hS.eval hx, hS.eval hy, ptr, eqGuard_at_pointer, h]
theorem r_s2a {t el : TypeId} {x : Operand} {b o len cap m : Nat} (hS : Slots a n E) (hx : ev E x = some (.slice (some ⟨b, o, none⟩) len cap)) (hT : P.underlying t = some (.array m el)) (hm : m ≤ len) : Run P a ⟨dst, .sliceToArrayPointer t x, ty, pos, af, g⟩ w (ptr b o) := by
  have : ¬ len < m := by omega
  simp [Run, execOp, hS.eval hx, Instr.arrayAt, run_underlying hT, this, ptr]
variable {opl : List Oper} {R : Value → List Blk → World → Prop}
end
end Go.Sym
namespace Go.Sym
open Go Go.RowKit
def SV (l : List UInt8) : Value := .string ⟨l.toArray⟩
def bl (m : Nat) (f : Nat → BitVec 8) : List UInt8 := (List.range m).map fun i => UInt8.ofNat (f i).toNat
section
variable {P : Program} {Q : Exit → Act → World → Prop} {a : Act} {w w0 : World} {n : Nat} {E : Nat → Option Value} {L Lx : List Blk} {ops : Array Oper} {rest : List Oper}
variable {dst : Option Nat} {ty : TypeId} {pos : String} {af : Array Edge} {g : Option (Nat × Bool)}
variable {opl : List Oper} {R : Value → List Blk → World → Prop}
end
end Go.Sym
namespace Go.Ev
open Go Go.Sym Go.RowKit
set_option linter.unusedSectionVars false
theorem T.get_lf {α : Type} (a : α) (i : Nat) : (T.lf a).get i = a := rfl
theorem cond_if {α : Type} (i : Nat) (x y : α) : cond (Nat.beq (Nat.mod i 2) 0) x y = if i % 2 = 0 then x else y := by
  have h : Nat.mod i 2 = i % 2 := rfl
  rw [h]
  by_cases h : i % 2 = 0
  · rw [if_pos h, h]; rfl
  · rw [if_neg h, show i % 2 = 1 by omega]; rfl
theorem T.get_nd {α : Type} (l r : T α) (i : Nat) : (T.nd l r).get i = if i % 2 = 0 then l.get (i / 2) else r.get (i / 2) := cond_if i _ _
theorem T.set_zero {α : Type} (t : T α) (i : Nat) (a : α) : T.set 0 t i a = .lf a := rfl
theorem T.set_lf {α : Type} (d : Nat) (b : α) (i : Nat) (a : α) : T.set (d + 1) (.lf b) i a = if i % 2 = 0 then .nd (T.set d (.lf b) (i / 2) a) (.lf b) else .nd (.lf b) (T.set d (.lf b) (i / 2) a) := cond_if i _ _
theorem T.set_nd {α : Type} (d : Nat) (l r : T α) (i : Nat) (a : α) : T.set (d + 1) (.nd l r) i a = if i % 2 = 0 then .nd (T.set d l (i / 2) a) r else .nd l (T.set d r (i / 2) a) := cond_if i _ _
theorem T.get_set {α : Type} : ∀ (d : Nat) (t : T α) (i j : Nat) (a : α), i < 2 ^ d → j < 2 ^ d → (T.set d t i a).get j = if j = i then a else t.get j
  | 0, t, i, j, a, hi, hj => by
    rw [Nat.pow_zero] at hi hj
    rw [T.set_zero, T.get_lf, if_pos (by omega)]
  | d + 1, .lf b, i, j, a, hi, hj => by
    rw [Nat.pow_succ] at hi hj
    rw [T.set_lf]
    by_cases h : i % 2 = 0
    · rw [if_pos h, T.get_nd]
      by_cases h2 : j % 2 = 0
      · rw [if_pos h2, T.get_set d _ _ _ _ (by omega) (by omega), T.get_lf, T.get_lf]
        by_cases e : j = i
        · rw [if_pos e, if_pos (by rw [e])]
        · rw [if_neg e, if_neg (by omega)]
      · rw [if_neg h2, T.get_lf, T.get_lf, if_neg (by omega)]
    · rw [if_neg h, T.get_nd]
      by_cases h2 : j % 2 = 0
      · rw [if_pos h2, T.get_lf, T.get_lf, if_neg (by omega)]
      · rw [if_neg h2, T.get_set d _ _ _ _ (by omega) (by omega), T.get_lf, T.get_lf]
        by_cases e : j = i
        · rw [if_pos e, if_pos (by rw [e])]
        · rw [if_neg e, if_neg (by omega)]
  | d + 1, .nd l r, i, j, a, hi, hj => by
    rw [Nat.pow_succ] at hi hj
    rw [T.set_nd]
    by_cases h : i % 2 = 0
    · rw [if_pos h, T.get_nd, T.get_nd]
      by_cases h2 : j % 2 = 0
      · rw [if_pos h2, if_pos h2, T.get_set d _ _ _ _ (by omega) (by omega)]
        by_cases e : j = i
        · rw [if_pos e, if_pos (by rw [e])]
        · rw [if_neg e, if_neg (by omega)]
      · rw [if_neg h2, if_neg h2, if_neg (by omega)]
    · rw [if_neg h, T.get_nd, T.get_nd]
      by_cases h2 : j % 2 = 0
      · rw [if_pos h2, if_pos h2, if_neg (by omega)]
      · rw [if_neg h2, if_neg h2, T.get_set d _ _ _ _ (by omega) (by omega)]
        by_cases e : j = i
        · rw [if_pos e, if_pos (by rw [e])]
        · rw [if_neg e, if_neg (by omega)]
theorem wr_get : ∀ (l : List C) (t : T C) (off j : Nat), off + l.length ≤ 16384 → j < 16384 → (wr t off l).get j = if off ≤ j ∧ j < off + l.length then l.getD (j - off) (.bool false) else t.get j
  | [], t, off, j, _, _ => by rw [wr, if_neg (by simp only [List.length_nil]; omega)]
  | c :: l, t, off, j, h, hj => by
    rw [List.length_cons] at h
    rw [wr, wr_get l _ _ _ (by omega) hj, show DC = 14 from rfl, T.get_set 14 _ _ _ _ (show off < 16384 by omega) hj, List.length_cons]
    by_cases h1 : off + 1 ≤ j ∧ j < off + 1 + l.length
    · rw [if_pos h1, if_pos (by omega), show j - off = (j - (off + 1)) + 1 by omega, List.getD_cons_succ]
    · rw [if_neg h1]
      by_cases e : j = off
      · rw [if_pos e, if_pos (by omega), e, Nat.sub_self, List.getD_cons_zero]
      · rw [if_neg e, if_neg (by omega)]
theorem rd_len (t : T C) : ∀ (n off : Nat), (rd t off n).length = n
  | 0, _ => rfl
  | n + 1, off => by rw [rd, List.length_cons, rd_len t n]
theorem rd_get (t : T C) : ∀ (n off i : Nat), i < n → (rd t off n)[i]? = some (t.get (off + i))
  | 0, _, _, h => by omega
  | n + 1, off, 0, _ => by rw [rd]; rfl
  | n + 1, off, i + 1, h => by rw [rd, List.getElem?_cons_succ, rd_get t n _ _ (by omega), show off + 1 + i = off + (i + 1) by omega]
structure Nm where
  b : Nat → Option Nat
  c : Nat → Option Nat
def Nm.no : Nm := ⟨fun _ => none, fun _ => none⟩
def capR (bs : Nm) : List (Nat × Nat) → List Value → Prop
  | [], [] => True
  | (id, off) :: r, v :: vs => (∃ b, bs.b id = some b ∧ v = .pointer (some ⟨b, off, none⟩)) ∧ capR bs r vs
  | _, _ => False
class Vl where
  v : Ob → Nat → Value
  one : ∀ o k, (v o k).oneCell' = true
variable [Vl]
def CR (bs : Nm) : C → Value → Prop
  | .int k n, v => v = .int k n
  | .bool b, v => v = .bool b
  | .str l, v => v = SV l
  | .nilp, v => v = .pointer none
  | .ptr id off, v => ∃ b, bs.b id = some b ∧ v = .pointer (some ⟨b, off, none⟩)
  | .nils, v => v = .slice none 0 0
  | .sl id off len cap, v => ∃ b c, bs.b id = some b ∧ len ≤ c ∧ (∀ c', cap = some c' → c = c') ∧ (cap = none → off = 0 → bs.c id = some c) ∧ v = .slice (some ⟨b, off, none⟩) len c
  | .emp, v => ∃ b off c, v = .slice (some ⟨b, off, none⟩) 0 c
  | .nilf, v => v = .nilFunc
  | .fn f caps, v => ∃ vs : List Value, capR bs caps vs ∧ v = .func (.func f) #[] vs.toArray
  | .sy o k, v => v = Vl.v o k
def CsR (bs : Nm) : List C → List Value → Prop
  | [], [] => True
  | c :: l, v :: vs => CR bs c v ∧ CsR bs l vs
  | _, _ => False
def PR (bs : Nm) : P1 → Value → Prop
  | .c c, v => CR bs c v
  | .agg l, v => ∃ vs, CsR bs l vs ∧ v = .agg vs.toArray
def PsR (bs : Nm) : List P1 → List Value → Prop
  | [], [] => True
  | c :: l, v :: vs => PR bs c v ∧ PsR bs l vs
  | _, _ => False
def VR (bs : Nm) : V → Value → Prop
  | .c c, v => CR bs c v
  | .agg l, v => ∃ vs, CsR bs l vs ∧ v = .agg vs.toArray
  | .tup l, v => ∃ vs, PsR bs l vs ∧ v = .tuple vs.toArray
def VsR (bs : Nm) : List V → List Value → Prop
  | [], [] => True
  | c :: l, v :: vs => VR bs c v ∧ VsR bs l vs
  | _, _ => False
structure Le (bs bs' : Nm) : Prop where
  b : ∀ id k, bs.b id = some k → bs'.b id = some k
  c : ∀ id k, bs.c id = some k → bs'.c id = some k
theorem Le.refl (bs : Nm) : Le bs bs := ⟨fun _ _ h => h, fun _ _ h => h⟩
theorem Le.trans {a b c : Nm} (h : Le a b) (h' : Le b c) : Le a c := ⟨fun id k e => h'.b id k (h.b id k e), fun id k e => h'.c id k (h.c id k e)⟩
theorem Le.bot (bs : Nm) : Le Nm.no bs := ⟨fun _ _ h => (nomatch h), fun _ _ h => (nomatch h)⟩
variable {bs bs' : Nm}
theorem capR.mono (hl : Le bs bs') : ∀ {l : List (Nat × Nat)} {vs : List Value}, capR bs l vs → capR bs' l vs
  | [], [], _ => trivial
  | (_, _) :: _, _ :: _, ⟨⟨b, h1, h2⟩, h3⟩ => ⟨⟨b, hl.b _ _ h1, h2⟩, h3.mono hl⟩
  | [], _ :: _, h => h
  | _ :: _, [], h => h
theorem CR.mono (hl : Le bs bs') {c : C} {v : Value} (h : CR bs c v) : CR bs' c v := by
  cases c with
  | ptr id off => obtain ⟨b, h1, h2⟩ := h; exact ⟨b, hl.b _ _ h1, h2⟩
  | sl id off len cap => obtain ⟨b, c, h1, h2, h3, h4, h5⟩ := h; exact ⟨b, c, hl.b _ _ h1, h2, h3, fun e e' => hl.c _ _ (h4 e e'), h5⟩
  | fn f caps => obtain ⟨vs, h1, h2⟩ := h; exact ⟨vs, h1.mono hl, h2⟩
  | _ => exact h
theorem CsR.mono (hl : Le bs bs') : ∀ {l : List C} {vs : List Value}, CsR bs l vs → CsR bs' l vs
  | [], [], _ => trivial
  | _ :: _, _ :: _, ⟨h1, h2⟩ => ⟨h1.mono hl, h2.mono hl⟩
  | [], _ :: _, h => h
  | _ :: _, [], h => h
theorem PR.mono (hl : Le bs bs') {c : P1} {v : Value} (h : PR bs c v) : PR bs' c v := by
  cases c with
  | c c => exact CR.mono hl h
  | agg l => obtain ⟨vs, h1, h2⟩ := h; exact ⟨vs, h1.mono hl, h2⟩
theorem PsR.mono (hl : Le bs bs') : ∀ {l : List P1} {vs : List Value}, PsR bs l vs → PsR bs' l vs
  | [], [], _ => trivial
  | _ :: _, _ :: _, ⟨h1, h2⟩ => ⟨h1.mono hl, h2.mono hl⟩
  | [], _ :: _, h => h
  | _ :: _, [], h => h
theorem VR.mono (hl : Le bs bs') {x : V} {v : Value} (h : VR bs x v) : VR bs' x v := by
  cases x with
  | c c => exact CR.mono hl h
  | agg l => obtain ⟨vs, h1, h2⟩ := h; exact ⟨vs, h1.mono hl, h2⟩
  | tup l => obtain ⟨vs, h1, h2⟩ := h; exact ⟨vs, h1.mono hl, h2⟩
theorem CsR.len : ∀ {l : List C} {vs : List Value}, CsR bs l vs → vs.length = l.length
  | [], [], _ => rfl
  | _ :: l, _ :: vs, ⟨_, h2⟩ => by rw [List.length_cons, List.length_cons, h2.len]
  | [], _ :: _, h => h.elim
  | _ :: _, [], h => h.elim
theorem CsR.get : ∀ {l : List C} {vs : List Value}, CsR bs l vs → ∀ (i : Nat) (c : C), l[i]? = some c → ∃ v, vs[i]? = some v ∧ CR bs c v
  | _ :: _, v :: _, ⟨h1, _⟩, 0, c, hc => by simp at hc; subst hc; exact ⟨v, rfl, h1⟩
  | _ :: l, _ :: vs, ⟨_, h2⟩, i + 1, c, hc => by
    rw [List.getElem?_cons_succ] at hc
    obtain ⟨v, h3, h4⟩ := h2.get i c hc
    exact ⟨v, by rw [List.getElem?_cons_succ]; exact h3, h4⟩
  | [], [], _, i, c, hc => by simp at hc
  | [], _ :: _, h, _, _, _ => h.elim
  | _ :: _, [], h, _, _, _ => h.elim
theorem CsR.of_get : ∀ {l : List C} {vs : List Value}, vs.length = l.length → (∀ (i : Nat) (c : C) (v : Value), l[i]? = some c → vs[i]? = some v → CR bs c v) → CsR bs l vs
  | [], [], _, _ => trivial
  | c :: l, v :: vs, h, hg => ⟨hg 0 c v rfl rfl, CsR.of_get (by simpa using h) fun i c' v' h1 h2 => hg (i + 1) c' v' (by rw [List.getElem?_cons_succ]; exact h1) (by rw [List.getElem?_cons_succ]; exact h2)⟩
  | [], _ :: _, h, _ => by simp at h
  | _ :: _, [], h, _ => by simp at h
theorem CR.one {c : C} {v : Value} (h : CR bs c v) : v.oneCell' = true ∧ v.cells = #[v] := by
  cases c with
  | ptr id off => obtain ⟨b, _, rfl⟩ := h; exact ⟨rfl, rfl⟩
  | sl id off len cap => obtain ⟨b, c, _, _, _, _, rfl⟩ := h; exact ⟨rfl, rfl⟩
  | fn f caps => obtain ⟨vs, _, rfl⟩ := h; exact ⟨rfl, rfl⟩
  | emp => obtain ⟨b, off, c, rfl⟩ := h; exact ⟨rfl, rfl⟩
  | str l => rw [show v = SV l from h]; exact ⟨rfl, rfl⟩
  | sy o k =>
    rw [show v = Vl.v o k from h]
    have h1 := Vl.one o k
    exact ⟨h1, by cases hv : Vl.v o k <;> first | rfl | (rw [hv] at h1; simp [Value.oneCell'] at h1)⟩
  | int k n => rw [show v = .int k n from h]; exact ⟨rfl, rfl⟩
  | bool b => rw [show v = .bool b from h]; exact ⟨rfl, rfl⟩
  | nilp => rw [show v = .pointer none from h]; exact ⟨rfl, rfl⟩
  | nils => rw [show v = .slice none 0 0 from h]; exact ⟨rfl, rfl⟩
  | nilf => rw [show v = .nilFunc from h]; exact ⟨rfl, rfl⟩
theorem VR.cells {x : V} {v : Value} {l : List C} (h : VR bs x v) (hl : cellsOf x = some l) : ∃ vs, v.cells = vs.toArray ∧ CsR bs l vs := by
  cases x with
  | c c =>
    simp only [cellsOf, Option.some.injEq] at hl
    subst hl
    exact ⟨[v], (CR.one h).2, ⟨h, trivial⟩⟩
  | agg l' =>
    simp only [cellsOf, Option.some.injEq] at hl
    subst hl
    obtain ⟨vs, h1, rfl⟩ := h
    exact ⟨vs, rfl, h1⟩
  | tup l' => simp [cellsOf] at hl
theorem VsR.len : ∀ {l : List V} {vs : List Value}, VsR bs l vs → vs.length = l.length
  | [], [], _ => rfl
  | _ :: l, _ :: vs, ⟨_, h2⟩ => by rw [List.length_cons, List.length_cons, h2.len]
  | [], _ :: _, h => h.elim
  | _ :: _, [], h => h.elim
theorem VsR.app : ∀ {l l' : List V} {vs vs' : List Value}, VsR bs l vs → VsR bs l' vs' → VsR bs (l ++ l') (vs ++ vs')
  | [], _, [], _, _, h => h
  | _ :: _, _, _ :: _, _, ⟨h1, h2⟩, h => ⟨h1, h2.app h⟩
  | [], _, _ :: _, _, h, _ => h.elim
  | _ :: _, _, [], _, h, _ => h.elim
theorem capsR.vs : ∀ {l : List (Nat × Nat)} {vs : List Value}, capR bs l vs → VsR bs (l.map fun (id, off) => V.c (.ptr id off)) vs
  | [], [], _ => trivial
  | (_, _) :: _, _ :: _, ⟨h1, h2⟩ => ⟨h1, capsR.vs h2⟩
  | [], _ :: _, h => h.elim
  | _ :: _, [], h => h.elim
theorem CsR.take {l : List C} {vs : List Value} (h : CsR bs l vs) (n : Nat) : CsR bs (l.take n) (vs.take n) := by
  induction n generalizing l vs with
  | zero => rw [List.take_zero, List.take_zero]; trivial
  | succ n ih =>
    cases l with
    | nil => cases vs with
      | nil => trivial
      | cons v vs => exact h.elim
    | cons c l => cases vs with
      | nil => exact h.elim
      | cons v vs => exact ⟨h.1, ih h.2⟩
theorem CsR.drop {l : List C} {vs : List Value} (h : CsR bs l vs) (n : Nat) : CsR bs (l.drop n) (vs.drop n) := by
  induction n generalizing l vs with
  | zero => exact h
  | succ n ih =>
    cases l with
    | nil => cases vs with
      | nil => trivial
      | cons v vs => exact h.elim
    | cons c l => cases vs with
      | nil => exact h.elim
      | cons v vs => exact ih h.2
theorem CsR.app : ∀ {l l' : List C} {vs vs' : List Value}, CsR bs l vs → CsR bs l' vs' → CsR bs (l ++ l') (vs ++ vs')
  | [], _, [], _, _, h => h
  | _ :: _, _, _ :: _, _, ⟨h1, h2⟩, h => ⟨h1, h2.app h⟩
  | [], _, _ :: _, _, h, _ => h.elim
  | _ :: _, _, [], _, h, _ => h.elim
theorem CsR.one : ∀ {l : List C} {vs : List Value}, CsR bs l vs → ∀ v ∈ vs, v.oneCell' = true
  | _ :: _, _ :: _, ⟨h1, h2⟩, v, hv => by
    rcases List.mem_cons.1 hv with rfl | hv
    · exact (CR.one h1).1
    · exact h2.one v hv
  | [], [], _, v, hv => by cases hv
  | [], _ :: _, h, _, _ => h.elim
  | _ :: _, [], h, _, _ => h.elim
end Go.Ev
namespace Go.Ev
open Go Go.Sym Go.RowKit
set_option linter.unusedSectionVars false
variable [Vl]
def Owned (h : Hp) (bs : Nm) (k : Nat) : Prop := ∃ id b, id < 4096 ∧ h.get id = some b ∧ bs.b id = some k
structure Mv (w w' : World) (bs bs' : Nm) (h h' : Hp) : Prop where
  os : w'.os = w.os
  tape : w'.tape = w.tape
  output : w'.output = w.output
  size : w.heap.size ≤ w'.heap.size
  le : Le bs bs'
  nx : h.nx ≤ h'.nx
  low : ∀ id, id < h.nx → bs'.b id = bs.b id ∧ bs'.c id = bs.c id
  old : ∀ k, k < w.heap.size → ¬ Owned h bs k → w'.heap[k]? = w.heap[k]?
  own : ∀ k, k < w.heap.size → Owned h' bs' k → Owned h bs k
  range : ∀ id k, bs'.b id = some k → k < w.heap.size → bs.b id = some k ∨ Owned h bs k
theorem Mv.refl (w : World) (bs : Nm) (h : Hp) : Mv w w bs bs h h := ⟨rfl, rfl, rfl, Nat.le_refl _, Le.refl _, Nat.le_refl _, fun _ _ => ⟨rfl, rfl⟩, fun _ _ _ => rfl, fun _ _ h => h, fun _ _ h _ => .inl h⟩
theorem Mv.trans {w w1 w2 : World} {bs bs1 bs2 : Nm} {h h1 h2 : Hp} (a : Mv w w1 bs bs1 h h1) (b : Mv w1 w2 bs1 bs2 h1 h2) : Mv w w2 bs bs2 h h2 where
  os := b.os.trans a.os
  tape := b.tape.trans a.tape
  output := b.output.trans a.output
  size := Nat.le_trans a.size b.size
  le := a.le.trans b.le
  nx := Nat.le_trans a.nx b.nx
  low id hid := ⟨(b.low id (Nat.lt_of_lt_of_le hid a.nx)).1.trans (a.low id hid).1, (b.low id (Nat.lt_of_lt_of_le hid a.nx)).2.trans (a.low id hid).2⟩
  old k hk hn := by
    rw [b.old k (Nat.lt_of_lt_of_le hk a.size) fun ho => hn (a.own k hk ho)]
    exact a.old k hk hn
  own k hk ho := a.own k hk (b.own k (Nat.lt_of_lt_of_le hk a.size) ho)
  range id k e hk := by
    rcases b.range id k e (Nat.lt_of_lt_of_le hk a.size) with h0 | h0
    · exact a.range id k h0 hk
    · exact .inr (a.own k hk h0)
structure Ext (w w' : World) : Prop where
  os : w'.os = w.os
  tape : w'.tape = w.tape
  output : w'.output = w.output
  size : w.heap.size ≤ w'.heap.size
  old : ∀ k, k < w.heap.size → w'.heap[k]? = w.heap[k]?
theorem Ext.of_mem {w w' : World} (h : Mem w w' []) : Ext w w' := ⟨h.os, h.tape, h.output, h.size, fun k hk => h.old k hk fun _ he => by cases he⟩
theorem Ext.of_mem1 {w w' : World} {e : Blk} (h : Mem w w' [e]) (hk : w.heap.size ≤ e.b) : Ext w w' := ⟨h.os, h.tape, h.output, h.size, fun k hk' => h.old k hk' fun f hf => by simp only [List.mem_singleton] at hf; subst hf; omega⟩
structure Upd (w w' : World) (k : Nat) : Prop where
  os : w'.os = w.os
  tape : w'.tape = w.tape
  output : w'.output = w.output
  size : w.heap.size ≤ w'.heap.size
  old : ∀ j, j < w.heap.size → j ≠ k → w'.heap[j]? = w.heap[j]?
theorem Upd.of_mem {w w' : World} {k : Nat} {t : TypeId} {cs : List Value} (h : Mem w w' [⟨k, t, cs⟩]) : Upd w w' k := ⟨h.os, h.tape, h.output, h.size, fun j hj hne => h.old j hj fun f hf => by simp only [List.mem_singleton] at hf; subst hf; exact fun e => hne e.symm⟩
def LenR (o : Option Nat) (ks len n : Nat) : Prop := match o with
  | some c => n = c * ks
  | none => n = len
def BR (w : World) (bs : Nm) (id : Nat) (b : Bl) (k : Nat) : Prop :=
  ∃ (cs : List Value) (fr : Nat × Nat), w.heap[k]? = some (.cells cs.toArray b.t fr) ∧ (b.ro = false → fr = (0, 0)) ∧ b.len ≤ cs.length ∧ b.len ≤ 16384 ∧ LenR (bs.c id) b.ks b.len cs.length ∧ ∀ i, i < b.len → ∃ u, cs[i]? = some u ∧ CR bs (b.cs.get i) u
theorem BR.mono {w w' : World} {bs bs' : Nm} {id k : Nat} {b : Bl} (h : BR w bs id b k) (hh : w'.heap[k]? = w.heap[k]?) (hl : Le bs bs') (hc : bs'.c id = bs.c id) : BR w' bs' id b k := by
  obtain ⟨cs, fr, h1, h2, h3, h4, h5, h6⟩ := h
  exact ⟨cs, fr, by rw [hh]; exact h1, h2, h3, h4, by rw [hc]; exact h5, fun i hi => by obtain ⟨u, hu, hr⟩ := h6 i hi; exact ⟨u, hu, hr.mono hl⟩⟩
structure HR (w : World) (bs : Nm) (h : Hp) : Prop where
  blk : ∀ id b, id < 4096 → h.get id = some b → ∃ k, bs.b id = some k ∧ BR w bs id b k
  inj : ∀ id id' b b' k, id < 4096 → id' < 4096 → h.get id = some b → h.get id' = some b' → bs.b id = some k → bs.b id' = some k → id = id'
  dom : ∀ id k, bs.b id = some k → id < 4096 ∧ k < w.heap.size
  nx : ∀ id, h.nx ≤ id → bs.b id = none ∧ bs.c id = none
variable {w w' w0 : World} {bs bs0 : Nm} {h h0 : Hp}
theorem Hp.get_put {h : Hp} {i j : Nat} {b : Option Bl} (hi : i < 4096) (hj : j < 4096) : (h.put i b).get j = if j = i then b else h.get j := T.get_set 12 h.h i j b hi hj
theorem HR.later (hR : HR w bs h) {n : Nat} (hn : h.nx ≤ n) : HR w bs ⟨h.h, n⟩ := ⟨hR.blk, hR.inj, hR.dom, fun id hid => hR.nx id (Nat.le_trans hn hid)⟩
theorem Mv.later {bs' : Nm} {h' : Hp} {n : Nat} (hm : Mv w w' bs bs' h h') (hn : h'.nx ≤ n) : Mv w w' bs bs' h ⟨h'.h, n⟩ := ⟨hm.os, hm.tape, hm.output, hm.size, hm.le, Nat.le_trans hm.nx hn, hm.low, hm.old, hm.own, hm.range⟩
theorem row_cell' {b : Nat} {t : TypeId} {cs : List Value} {fr : Nat × Nat} (h : w.heap[b]? = some (.cells cs.toArray t fr)) (j : Nat) : w.cell? ⟨b, j, none⟩ = cs[j]? := by
  simp [World.cell?, h]
theorem HR.cell (hR : HR w bs h) {id off : Nat} {b : Bl} {k : Nat} (hg : h.get id = some b) (hk : bs.b id = some k) (hlt : off < b.len) : ∃ u, w.cell? ⟨k, off, none⟩ = some u ∧ CR bs (b.cs.get off) u := by
  obtain ⟨k', h1, cs, fr, h2, _, _, _, _, h5⟩ := hR.blk id b (hR.dom id k hk).1 hg
  rw [hk] at h1; cases h1
  obtain ⟨u, hu, hc⟩ := h5 off hlt
  exact ⟨u, by rw [row_cell' h2 off]; exact hu, hc⟩
theorem HR.cells (hR : HR w bs h) {id : Nat} {b : Bl} {k : Nat} (hg : h.get id = some b) (hk : bs.b id = some k) : ∀ (n off : Nat), off + n ≤ b.len → ∃ vs : List Value, CsR bs (rd b.cs off n) vs ∧ ∀ j v, vs[j]? = some v → w.cell? ⟨k, off + j, none⟩ = some v
  | 0, off, _ => ⟨[], trivial, fun j v hv => by simp at hv⟩
  | n + 1, off, hle => by
    obtain ⟨u, hu, hc⟩ := hR.cell hg hk (show off < b.len by omega)
    obtain ⟨vs, h1, h2⟩ := hR.cells hg hk n (off + 1) (by omega)
    refine ⟨u :: vs, ⟨hc, h1⟩, fun j v hv => ?_⟩
    cases j with
    | zero => rw [List.getElem?_cons_zero] at hv; cases hv; exact hu
    | succ j => rw [List.getElem?_cons_succ] at hv; have := h2 j v hv; rwa [show off + 1 + j = off + (j + 1) by omega] at this
theorem HR.same (hR : HR w bs h) (hM : Ext w w') : HR w' bs h ∧ Mv w w' bs bs h h := by
  refine ⟨⟨fun id b hid hb => ?_, hR.inj, fun id k hk => ⟨(hR.dom id k hk).1, Nat.lt_of_lt_of_le (hR.dom id k hk).2 hM.size⟩, hR.nx⟩, ⟨hM.os, hM.tape, hM.output, hM.size, Le.refl _, Nat.le_refl _, fun _ _ => ⟨rfl, rfl⟩, fun k hk _ => hM.old k hk, fun k _ ho => ho, fun id k hk _ => .inl hk⟩⟩
  obtain ⟨k, h1, h3⟩ := hR.blk id b hid hb
  exact ⟨k, h1, h3.mono (hM.old k (hR.dom id k h1).2) (Le.refl _) rfl⟩
theorem HR.write (hR : HR w bs h) {id k : Nat} {b b' : Bl} (hg : h.get id = some b) (hk : bs.b id = some k) (hM : Upd w w' k) (hb' : BR w' bs id b' k) : HR w' bs (h.put id (some b')) ∧ Mv w w' bs bs h (h.put id (some b')) := by
  have hid := (hR.dom id k hk).1
  have hin : ∀ i c, i < 4096 → (h.put id (some b')).get i = some c → ∃ c0, h.get i = some c0 := fun i c hi hb => by
    rw [Hp.get_put hid hi] at hb
    by_cases e : i = id
    · exact ⟨b, by rw [e]; exact hg⟩
    · rw [if_neg e] at hb; exact ⟨c, hb⟩
  refine ⟨⟨fun i c hi hb => ?_, fun i j c d m hi hj hbi hbj h1 h2 => ?_, fun i m hm => ⟨(hR.dom i m hm).1, Nat.lt_of_lt_of_le (hR.dom i m hm).2 hM.size⟩, fun i hi => hR.nx i hi⟩,
    ⟨hM.os, hM.tape, hM.output, hM.size, Le.refl _, Nat.le_refl _, fun _ _ => ⟨rfl, rfl⟩, fun j hj hn => hM.old j hj (fun e => hn ⟨id, b, hid, hg, by rw [e]; exact hk⟩), fun j _ ⟨i, c, hi, hc, hm⟩ => ?_, fun i m hm _ => .inl hm⟩⟩
  · rw [Hp.get_put hid hi] at hb
    by_cases e : i = id
    · rw [if_pos e] at hb; cases hb
      subst e
      exact ⟨k, hk, hb'⟩
    · rw [if_neg e] at hb
      obtain ⟨m, h1, h3⟩ := hR.blk i c hi hb
      have hne : m ≠ k := fun e2 => e (hR.inj i id c b m hi hid hb hg h1 (by rw [e2]; exact hk))
      exact ⟨m, h1, h3.mono (hM.old m (hR.dom i m h1).2 hne) (Le.refl _) rfl⟩
  · obtain ⟨c', hc'⟩ := hin i c hi hbi
    obtain ⟨d', hd'⟩ := hin j d hj hbj
    exact hR.inj i j c' d' m hi hj hc' hd' h1 h2
  · obtain ⟨c', hc'⟩ := hin i c hi hc
    exact ⟨i, c', hi, hc', hm⟩
def nput (bs : Nm) (id k : Nat) (q : Option Nat) : Nm := ⟨fun i => if i = id then some k else bs.b i, fun i => if i = id then q else bs.c i⟩
theorem nput_le {bs : Nm} {id k : Nat} {q : Option Nat} (hn : bs.b id = none) (hc : bs.c id = none) : Le bs (nput bs id k q) := by
  refine ⟨fun i m hm => ?_, fun i m hm => ?_⟩
  · show (if i = id then some k else bs.b i) = some m
    by_cases e : i = id
    · rw [e, hn] at hm; cases hm
    · rw [if_neg e]; exact hm
  · show (if i = id then q else bs.c i) = some m
    by_cases e : i = id
    · rw [e, hc] at hm; cases hm
    · rw [if_neg e]; exact hm
theorem nput_self {bs : Nm} {id k : Nat} {q : Option Nat} : (nput bs id k q).b id = some k := if_pos rfl
theorem nput_selfc {bs : Nm} {id k : Nat} {q : Option Nat} : (nput bs id k q).c id = q := if_pos rfl
theorem nput_ne {bs : Nm} {id k i : Nat} {q : Option Nat} (h : i ≠ id) : (nput bs id k q).b i = bs.b i := if_neg h
theorem nput_nec {bs : Nm} {id k i : Nat} {q : Option Nat} (h : i ≠ id) : (nput bs id k q).c i = bs.c i := if_neg h
theorem HR.gone (hR : HR w bs h) {id : Nat} (hid : id < 4096) (hn : bs.b id = none) : h.get id = none := by
  cases hg : h.get id with
  | none => rfl
  | some b => obtain ⟨k, h1, _⟩ := hR.blk id b hid hg; rw [hn] at h1; cases h1
theorem HR.named (hR : HR w bs h) {id k : Nat} {q : Option Nat} (hid : id < 4096) (hn : bs.b id = none) (hc : bs.c id = none) (hnx : id < h.nx) (hM : Ext w w') (hkl : k < w'.heap.size) : HR w' (nput bs id k q) h := by
  have hle := nput_le (k := k) (q := q) hn hc
  have hg := hR.gone hid hn
  have hne : ∀ i b, h.get i = some b → i ≠ id := fun i b hb e => by rw [e, hg] at hb; cases hb
  refine ⟨fun i c hi hb => ?_, fun i j c d m hi hj hbi hbj h1 h2 => ?_, fun i m hm => ?_, fun i hi => ?_⟩
  · obtain ⟨m, h1, h3⟩ := hR.blk i c hi hb
    exact ⟨m, hle.b _ _ h1, h3.mono (hM.old m (hR.dom i m h1).2) hle (nput_nec (hne i c hb))⟩
  · rw [nput_ne (hne i c hbi)] at h1
    rw [nput_ne (hne j d hbj)] at h2
    exact hR.inj i j c d m hi hj hbi hbj h1 h2
  · by_cases e : i = id
    · rw [e, nput_self] at hm; cases hm; rw [e]; exact ⟨hid, hkl⟩
    · rw [nput_ne e] at hm; exact ⟨(hR.dom i m hm).1, Nat.lt_of_lt_of_le (hR.dom i m hm).2 hM.size⟩
  · rw [nput_ne (by omega), nput_nec (by omega)]; exact hR.nx i hi
theorem HR.join (hR : HR w bs h) {id k : Nat} {b : Bl} (hk : bs.b id = some k) (hb : BR w bs id b k) (hno : ¬ Owned h bs k) : HR w bs (h.put id (some b)) := by
  have hid := (hR.dom id k hk).1
  refine ⟨fun i c hi hc => ?_, fun i j c d m hi hj hbi hbj h1 h2 => ?_, hR.dom, hR.nx⟩
  · rw [Hp.get_put hid hi] at hc
    by_cases e : i = id
    · rw [if_pos e] at hc; cases hc; rw [e]; exact ⟨k, hk, hb⟩
    · rw [if_neg e] at hc; exact hR.blk i c hi hc
  · rw [Hp.get_put hid hi] at hbi
    rw [Hp.get_put hid hj] at hbj
    by_cases ei : i = id
    · by_cases ej : j = id
      · rw [ei, ej]
      · rw [if_neg ej] at hbj
        rw [ei, hk] at h1; cases h1
        exact absurd ⟨j, d, hj, hbj, h2⟩ hno
    · rw [if_neg ei] at hbi
      by_cases ej : j = id
      · rw [ej, hk] at h2; cases h2
        exact absurd ⟨i, c, hi, hbi, h1⟩ hno
      · rw [if_neg ej] at hbj
        exact hR.inj i j c d m hi hj hbi hbj h1 h2
theorem owned_put {id k j : Nat} {b : Bl} (hid : id < 4096) (hk : bs.b id = some k) (ho : Owned (h.put id (some b)) bs j) : j = k ∨ Owned h bs j := by
  obtain ⟨i, c, hi, hc, hm⟩ := ho
  rw [Hp.get_put hid hi] at hc
  by_cases e : i = id
  · rw [e, hk] at hm; cases hm; exact .inl rfl
  · rw [if_neg e] at hc; exact .inr ⟨i, c, hi, hc, hm⟩
theorem Mv.join (hm : Mv w0 w bs0 bs h0 h) {id k : Nat} {b : Bl} (hid : id < 4096) (hk : bs.b id = some k) (hw : w0.heap.size ≤ k) : Mv w0 w bs0 bs h0 (h.put id (some b)) :=
  ⟨hm.os, hm.tape, hm.output, hm.size, hm.le, hm.nx, hm.low, hm.old, fun j hj ho => by
    rcases owned_put hid hk ho with e | e
    · omega
    · exact hm.own j hj e, hm.range⟩
theorem HR.made (hR : HR w bs h) {k : Nat} {q : Option Nat} {b : Bl} (hid : h.nx < 4096) (hM : Ext w w') (hk : w.heap.size ≤ k) (hkl : k < w'.heap.size) (hb : BR w' (nput bs h.nx k q) h.nx b k) :
    HR w' (nput bs h.nx k q) ((⟨h.h, h.nx + 1⟩ : Hp).put h.nx (some b)) ∧ Mv w w' bs (nput bs h.nx k q) h ((⟨h.h, h.nx + 1⟩ : Hp).put h.nx (some b)) := by
  obtain ⟨hn, hc⟩ := hR.nx h.nx (Nat.le_refl _)
  have hle := nput_le (k := k) (q := q) hn hc
  have h1 : HR w' (nput bs h.nx k q) ⟨h.h, h.nx + 1⟩ := HR.named (hR.later (Nat.le_succ _)) hid hn hc (Nat.lt_succ_self _) hM hkl
  have hnok : ∀ i c, i < 4096 → h.get i = some c → bs.b i ≠ some k := fun i c _ _ e => by have := (hR.dom i k e).2; omega
  have hgone := hR.gone hid hn
  have hno : ¬ Owned ⟨h.h, h.nx + 1⟩ (nput bs h.nx k q) k := by
    rintro ⟨i, c, hi, hc2, hm⟩
    have hc3 : h.get i = some c := hc2
    have hne : i ≠ h.nx := fun e => by rw [e, hgone] at hc3; cases hc3
    rw [nput_ne hne] at hm
    exact hnok i c hi hc3 hm
  refine ⟨h1.join nput_self hb hno, ⟨hM.os, hM.tape, hM.output, hM.size, hle, Nat.le_succ _, fun i hi => ⟨nput_ne (by omega), nput_nec (by omega)⟩, fun j hj _ => hM.old j hj, fun j hj ho => ?_, fun i m hm hlt => ?_⟩⟩
  · rcases owned_put hid nput_self ho with e | ⟨i, c, hi, hc2, hm⟩
    · omega
    · have hc3 : h.get i = some c := hc2
      have hne : i ≠ h.nx := fun e => by rw [e, hgone] at hc3; cases hc3
      rw [nput_ne hne] at hm
      exact ⟨i, c, hi, hc3, hm⟩
  · by_cases e : i = h.nx
    · rw [e, nput_self] at hm; cases hm; omega
    · rw [nput_ne e] at hm; exact .inl hm
theorem HR.drop (hR : HR w bs h) {id : Nat} (hid : id < 4096) : HR w bs (h.put id none) := by
  refine ⟨fun i c hi hb => ?_, fun i j c d m hi hj hbi hbj h1 h2 => ?_, hR.dom, hR.nx⟩
  · rw [Hp.get_put hid hi] at hb
    by_cases e : i = id
    · rw [if_pos e] at hb; cases hb
    · rw [if_neg e] at hb; exact hR.blk i c hi hb
  · rw [Hp.get_put hid hi] at hbi
    rw [Hp.get_put hid hj] at hbj
    by_cases e : i = id
    · rw [if_pos e] at hbi; cases hbi
    · rw [if_neg e] at hbi
      by_cases e2 : j = id
      · rw [if_pos e2] at hbj; cases hbj
      · rw [if_neg e2] at hbj; exact hR.inj i j c d m hi hj hbi hbj h1 h2
theorem Mv.drop {bs' : Nm} {h' : Hp} (hm : Mv w w' bs bs' h h') {id : Nat} (hid : id < 4096) : Mv w w' bs bs' h (h'.put id none) :=
  ⟨hm.os, hm.tape, hm.output, hm.size, hm.le, hm.nx, hm.low, hm.old, fun j hj ⟨i, c, hi, hc, hb⟩ => by
    rw [Hp.get_put hid hi] at hc
    by_cases e : i = id
    · rw [if_pos e] at hc; cases hc
    · rw [if_neg e] at hc; exact hm.own j hj ⟨i, c, hi, hc, hb⟩, hm.range⟩
theorem HR.renamed (hR : HR w bs h) {id k : Nat} {q : Option Nat} {b b' : Bl} (hg : h.get id = some b) (hk : bs.b id = some k) (hid' : h.nx < 4096) (hM : Upd w w' k) (hb : BR w' (nput bs h.nx k q) h.nx b' k) :
    HR w' (nput bs h.nx k q) (((⟨h.h, h.nx + 1⟩ : Hp).put h.nx (some b')).put id none) ∧ Mv w w' bs (nput bs h.nx k q) h (((⟨h.h, h.nx + 1⟩ : Hp).put h.nx (some b')).put id none) := by
  obtain ⟨hn, hc⟩ := hR.nx h.nx (Nat.le_refl _)
  have hid := (hR.dom id k hk).1
  have hne : id ≠ h.nx := fun e => by rw [e, hn] at hk; cases hk
  have hle := nput_le (k := k) (q := q) hn hc
  have hgone := hR.gone hid' hn
  have hget : ∀ i, i < 4096 → (((⟨h.h, h.nx + 1⟩ : Hp).put h.nx (some b')).put id none).get i = if i = id then none else if i = h.nx then some b' else h.get i := fun i hi => by
    rw [Hp.get_put hid hi, Hp.get_put hid' hi]; rfl
  have hx : ∀ i c m, i < 4096 → (((⟨h.h, h.nx + 1⟩ : Hp).put h.nx (some b')).put id none).get i = some c → (nput bs h.nx k q).b i = some m → (i = h.nx ∧ m = k ∧ c = b') ∨ (i ≠ id ∧ i ≠ h.nx ∧ h.get i = some c ∧ bs.b i = some m) := fun i c m hi hb hm => by
    rw [hget i hi] at hb
    by_cases e1 : i = id
    · rw [if_pos e1] at hb; cases hb
    · rw [if_neg e1] at hb
      by_cases e2 : i = h.nx
      · rw [if_pos e2] at hb; cases hb; rw [e2, nput_self] at hm; cases hm; exact .inl ⟨e2, rfl, rfl⟩
      · rw [if_neg e2] at hb; rw [nput_ne e2] at hm; exact .inr ⟨e1, e2, hb, hm⟩
  refine ⟨⟨fun i c hi hb2 => ?_, fun i j c d m hi hj hbi hbj h1 h2 => ?_, fun i m hm => ?_, fun i hi => ?_⟩,
    ⟨hM.os, hM.tape, hM.output, hM.size, hle, Nat.le_succ _, fun i hi => ⟨nput_ne (by omega), nput_nec (by omega)⟩, fun j hj hn2 => hM.old j hj (fun e => hn2 ⟨id, b, hid, hg, by rw [e]; exact hk⟩), fun j hj ⟨i, c, hi, hc2, hm⟩ => ?_, fun i m hm _ => ?_⟩⟩
  · have hb3 := hb2
    rw [hget i hi] at hb2
    by_cases e1 : i = id
    · rw [if_pos e1] at hb2; cases hb2
    · rw [if_neg e1] at hb2
      by_cases e2 : i = h.nx
      · rw [if_pos e2] at hb2; cases hb2
        rw [e2]
        exact ⟨k, nput_self, hb⟩
      · rw [if_neg e2] at hb2
        obtain ⟨m, h1, h3⟩ := hR.blk i c hi hb2
        have hm : m ≠ k := fun e => e1 (hR.inj i id c b m hi hid hb2 hg h1 (by rw [e]; exact hk))
        exact ⟨m, hle.b _ _ h1, h3.mono (hM.old m (hR.dom i m h1).2 hm) hle (nput_nec e2)⟩
  · rcases hx i c m hi hbi h1 with ⟨a1, a2, _⟩ | ⟨a1, a2, a3, a4⟩
    · rcases hx j d m hj hbj h2 with ⟨b1, _, _⟩ | ⟨b1, b2, b3, b4⟩
      · rw [a1, b1]
      · exact absurd (hR.inj j id d b m hj hid b3 hg b4 (by rw [a2]; exact hk)) b1
    · rcases hx j d m hj hbj h2 with ⟨b1, b2', _⟩ | ⟨b1, b2, b3, b4⟩
      · exact absurd (hR.inj i id c b m hi hid a3 hg a4 (by rw [b2']; exact hk)) a1
      · exact hR.inj i j c d m hi hj a3 b3 a4 b4
  · by_cases e : i = h.nx
    · rw [e, nput_self] at hm; cases hm; rw [e]; exact ⟨hid', Nat.lt_of_lt_of_le (hR.dom id k hk).2 hM.size⟩
    · rw [nput_ne e] at hm; exact ⟨(hR.dom i m hm).1, Nat.lt_of_lt_of_le (hR.dom i m hm).2 hM.size⟩
  · have hi' : h.nx + 1 ≤ i := hi
    rw [nput_ne (by omega), nput_nec (by omega)]; exact hR.nx i (by omega)
  · rcases hx i c j hi hc2 hm with ⟨_, a2, _⟩ | ⟨_, _, a3, a4⟩
    · exact ⟨id, b, hid, hg, by rw [a2]; exact hk⟩
    · exact ⟨i, c, hi, a3, a4⟩
  · by_cases e : i = h.nx
    · rw [e, nput_self] at hm; cases hm; exact .inr ⟨id, b, hid, hg, hk⟩
    · rw [nput_ne e] at hm; exact .inl hm
end Go.Ev
