/-
  A region that draws its order: its head yields the same values in every order; its tail comes last in every order.
-/
import Derived.Test.YtbfiaoemoookcaaDoorSymOps
namespace Go.Sym
open Go Go.RowKit

theorem both_of {S : Array Bool} {i : Nat} (h : S.getD i true = false) : S.getD i false = false := by
  rw [Array.getD_eq_getD_getElem?] at h ⊢
  cases hx : S[i]? with
  | none => rw [hx] at h; cases h
  | some b => rw [hx] at h; simpa using h
theorem in_of {S : Array Bool} {i : Nat} (hi : i < S.size) (h : S.getD i false = false) : S.getD i true = false := by
  rw [Array.getD_eq_getD_getElem?] at h ⊢
  rw [Array.getElem?_eq_getElem hi] at h ⊢
  simpa using h
theorem replicate_false (m j : Nat) : (Array.replicate m false).getD j false = false := by
  rw [Array.getD_eq_getD_getElem?, Array.getElem?_replicate]
  split <;> rfl

section
variable {P : Program} {Q : Exit → Act → World → Prop} {n : Nat} {ops : List Oper}

/-- Whatever order: an invariant over the set of what has come up. -/
theorem wpAny_inv {oa : Array Oper} (Inv : Array Bool → Act → World → Prop)
    (step : ∀ S a w i, i ∈ Region.ready .any oa S → Inv S a w → wpOp P oa Q i (fun a' w' => Inv (S.setIfInBounds i true) a' w') a w)
    (done : ∀ S a w, Region.ready .any oa S = [] → Inv S a w → Q .normal a w)
    (short : ∀ S a w, Inv S a w → S.size = oa.size) :
    ∀ (f : Nat) (S : Array Bool) (a : Act) (w : World), ((List.range oa.size).filter (fun i => !S.getD i true)).length ≤ f → Inv S a w → wpAny P .any oa Q f S a w := by
  intro f
  induction f with
  | zero =>
    intro S a w hf hI
    have hr : Region.ready .any oa S = [] := by
      rw [List.eq_nil_iff_forall_not_mem]
      intro i hi
      obtain ⟨h1, o, ho, _⟩ := mem_ready.1 hi
      have hlt : i < oa.size := (Array.getElem?_eq_some_iff.1 ho).1
      have hm : i ∈ (List.range oa.size).filter (fun i => !S.getD i true) := by
        rw [List.mem_filter]
        exact ⟨List.mem_range.2 hlt, by rw [h1]; rfl⟩
      have := List.length_pos_of_mem hm
      omega
    exact ⟨hr, done S a w hr hI⟩
  | succ f ih =>
    intro S a w hf hI
    refine ⟨fun hr => done S a w hr hI, fun i hi => ?_⟩
    obtain ⟨h1, o, ho, _⟩ := mem_ready.1 hi
    have hlt : i < oa.size := (Array.getElem?_eq_some_iff.1 ho).1
    refine wpOp_mono (fun a' w' h => ih _ a' w' ?_ h) (step S a w i hi hI)
    have hsz := short S a w hI
    have hsub : ((List.range oa.size).filter (fun j => !(S.setIfInBounds i true).getD j true)).length < ((List.range oa.size).filter (fun j => !S.getD j true)).length := by
      have key : ∀ l : List Nat, (∀ j ∈ l, j < oa.size) → ((l.filter (fun j => !(S.setIfInBounds i true).getD j true)).length ≤ (l.filter (fun j => !S.getD j true)).length ∧
          (i ∈ l → (l.filter (fun j => !(S.setIfInBounds i true).getD j true)).length < (l.filter (fun j => !S.getD j true)).length)) := by
        intro l
        induction l with
        | nil => intro _; exact ⟨Nat.le_refl _, fun h => by cases h⟩
        | cons j l ihl =>
          intro hl
          obtain ⟨ih1, ih2⟩ := ihl (fun k hk => hl k (List.mem_cons_of_mem _ hk))
          by_cases hji : i = j
          · subst hji
            have e1 : (S.setIfInBounds i true).getD i true = true := by
              have : i < S.size := by omega
              simp [Array.getD_eq_getD_getElem?, this]
            simp only [List.filter_cons, e1, h1, Bool.not_true, Bool.not_false, if_true, Bool.false_eq_true, if_false, List.length_cons]
            exact ⟨by omega, fun _ => by omega⟩
          · have e1 : (S.setIfInBounds i true).getD j true = S.getD j true := by
              simp [Array.getD_eq_getD_getElem?, hji]
            simp only [List.filter_cons, e1]
            split
            · simp only [List.length_cons]
              refine ⟨by omega, fun hm => ?_⟩
              rcases List.mem_cons.1 hm with h | h
              · exact absurd h hji
              · have := ih2 h; omega
            · refine ⟨ih1, fun hm => ?_⟩
              rcases List.mem_cons.1 hm with h | h
              · exact absurd h hji
              · exact ih2 h
      exact (key _ (fun j hj => List.mem_range.1 hj)).2 (List.mem_range.2 hlt)
    omega

/-- In this state the operation yields v, in whatever world of the class, and leaves a world of the class. -/
def Yields (P : Program) (ops : List Oper) (C : World → Prop) (o : Oper) (a : Act) (w : World) (v : Value) : Prop :=
  (Region.wanted o (yielded ops.toArray a.tmps) = true ∧
    ((execOp a.eval o).run P w = .ok (.value v) w ∨ ∃ f args, (execOp a.eval o).run P w = .ok (.enter f args) w ∧ Calls P f args w (fun e w' => e = .returned v ∧ C w'))) ∨
  (Region.wanted o (yielded ops.toArray a.tmps) = false ∧ v = undef)

def vput (vals : Nat → Value) (i : Nat) (v : Value) : Nat → Value := fun j => bif Nat.beq j i then v else vals j

/-- What an operation may lean on: the values of those that it waits for, and the slots from outside. -/
def predEnv (ops : List Oper) (o : Oper) (es : List (Nat × Value)) (vals : Nat → Value) : Nat → Option Value :=
  env (o.after.toList.filterMap (fun e => if Region.binds .any e then ((ops[e.on]?).bind (·.dst)).map (fun d => (d, vals e.on)) else none) ++ es)

def plan (P : Program) (ops : List Oper) (n : Nat) (C : World → Prop) (es : List (Nat × Value)) (K : (Nat → Value) → Prop) : List Oper → Nat → (Nat → Value) → Prop
  | [], _, vals => K vals
  | o :: rest, i, vals => ∃ v, (∀ a w, Slots a n (predEnv ops o es vals) → C w → Yields P ops C o a w v) ∧ plan P ops n C es K rest (i + 1) (vput vals i v)

/-- All that an operation waits for, at whatever distance. -/
def reach (ops : List Oper) : Nat → Nat → List Nat
  | 0, _ => []
  | f + 1, i => match ops[i]? with
    | none => []
    | some o => o.after.toList.flatMap fun e => if Region.binds .any e then e.on :: reach ops f e.on else []

/-- From t on every operation waits for all ahead of it; no temporary is written twice. -/
def tailB (ops : List Oper) (t : Nat) : Bool :=
  (List.range ops.length).all fun i => decide (i < t) || (List.range i).all fun j => (reach ops (ops.length + 1) i).contains j

def dstsOk (n : Nat) : List Oper → Bool
  | [] => true
  | o :: l => (match o.dst with | none => true | some d => decide (d < n) && l.all fun o' => match o'.dst with | none => true | some d' => !(d == d')) && dstsOk n l
def outside (ops : List Oper) (es : List (Nat × Value)) : Bool := es.all fun p => ops.all fun o => match o.dst with | none => true | some d => !(d == p.1)

theorem dstsOk_spec : ∀ {l : List Oper}, dstsOk n l = true → ∀ (i j : Nat) (oi oj : Oper) (d : Nat), l[i]? = some oi → l[j]? = some oj → oi.dst = some d → oj.dst = some d → i = j ∧ d < n
  | [], _, i, _, _, _, _, hi, _, _, _ => by simp at hi
  | o :: l, h, i, j, oi, oj, d, hi, hj, hdi, hdj => by
    simp only [dstsOk, Bool.and_eq_true] at h
    obtain ⟨h1, h2⟩ := h
    cases i with
    | zero =>
      simp at hi; subst hi
      rw [hdi] at h1
      simp only [Bool.and_eq_true, decide_eq_true_eq] at h1
      cases j with
      | zero => exact ⟨rfl, h1.1⟩
      | succ j =>
        simp only [List.getElem?_cons_succ] at hj
        have := List.all_eq_true.1 h1.2 oj (List.mem_of_getElem? hj)
        rw [hdj] at this
        simp at this
    | succ i =>
      simp only [List.getElem?_cons_succ] at hi
      cases j with
      | zero =>
        simp at hj; subst hj
        rw [hdj] at h1
        simp only [Bool.and_eq_true, decide_eq_true_eq] at h1
        have := List.all_eq_true.1 h1.2 oi (List.mem_of_getElem? hi)
        rw [hdi] at this
        simp at this
      | succ j =>
        simp only [List.getElem?_cons_succ] at hj
        have := dstsOk_spec h2 i j oi oj d hi hj hdi hdj
        exact ⟨by omega, this.2⟩

/-- The slots, some operations having come up. -/
structure Held (a : Act) (n : Nat) (ops : List Oper) (es : List (Nat × Value)) (vals : Nat → Value) (S : Nat → Bool) : Prop where
  defers : a.defers = []
  size : a.tmps.size = n
  outer : ∀ i v, env es i = some v → a.tmps[i]? = some v
  inner : ∀ i o d, ops[i]? = some o → o.dst = some d → S i = true → a.tmps[d]? = some (vals i)

theorem env_append_spec {l1 l2 : List (Nat × Value)} {i : Nat} {v : Value} (h : env (l1 ++ l2) i = some v) : (∃ p ∈ l1, p.1 = i ∧ p.2 = v) ∨ env l2 i = some v := by
  induction l1 with
  | nil => exact .inr h
  | cons p l1 ih =>
    obtain ⟨d, u⟩ := p
    simp only [List.cons_append, env] at h
    by_cases hid : i = d
    · subst hid
      rw [show Nat.beq i i = true from beq_self _] at h
      simp only [cond_true, Option.some.injEq] at h
      exact .inl ⟨(i, u), List.mem_cons_self, rfl, h⟩
    · rw [show Nat.beq i d = false from by
        cases hb : Nat.beq i d with
        | false => rfl
        | true => exact absurd (Nat.eq_of_beq_eq_true hb) hid] at h
      simp only [cond_false] at h
      rcases ih h with ⟨p, hp, h1⟩ | h1
      · exact .inl ⟨p, List.mem_cons_of_mem _ hp, h1⟩
      · exact .inr h1

theorem env_mem {l : List (Nat × Value)} {i : Nat} {v : Value} (h : env l i = some v) : ∃ p ∈ l, p.1 = i ∧ p.2 = v := by
  have : env (l ++ []) i = some v := by simpa using h
  rcases env_append_spec this with h | h
  · exact h
  · simp [env] at h

theorem filterMap_eq {α β : Type} {f g : α → Option β} : ∀ {l : List α}, (∀ x ∈ l, f x = g x) → l.filterMap f = l.filterMap g
  | [], _ => rfl
  | x :: l, h => by
    rw [List.filterMap_cons, List.filterMap_cons, h x List.mem_cons_self, filterMap_eq (l := l) (fun y hy => h y (List.mem_cons_of_mem _ hy))]

theorem Held.slots {a : Act} {es : List (Nat × Value)} {vals : Nat → Value} {S : Nat → Bool} {o : Oper} (h : Held a n ops es vals S)
    (hp : ∀ e ∈ o.after, Region.binds .any e = true → S e.on = true) : Slots a n (predEnv ops o es vals) where
  defers := h.defers
  size := h.size
  get := by
    intro i v hv
    rcases env_append_spec hv with ⟨p, hp', h1, h2⟩ | hv
    · rw [List.mem_filterMap] at hp'
      obtain ⟨e, he, hpe⟩ := hp'
      split at hpe
      · rename_i hb
        cases hoo : ops[e.on]? with
        | none => simp [hoo] at hpe
        | some oe =>
          cases hd : oe.dst with
          | none => simp [hoo, hd] at hpe
          | some d =>
            simp [hoo, hd] at hpe
            subst hpe
            simp only at h1 h2
            subst h1 h2
            exact h.inner e.on oe d hoo hd (hp e (Array.mem_toList_iff.1 he) hb)
      · cases hpe
    · exact h.outer i v hv

theorem outside_spec {l : List Oper} {es : List (Nat × Value)} (h : outside l es = true) {o : Oper} (ho : o ∈ l) : ∀ d0, o.dst = some d0 → ∀ p ∈ es, d0 ≠ p.1 := by
  intro d0 hd p hp
  have := List.all_eq_true.1 (List.all_eq_true.1 h p hp) o ho
  rw [hd] at this
  simpa using this
theorem mem_take {l : List Oper} {i t : Nat} {o : Oper} (hi : i < t) (h : l[i]? = some o) : o ∈ l.take t := List.mem_of_getElem? (i := i) (by rw [List.getElem?_take, if_pos hi]; exact h)

theorem Held.done {a : Act} {es : List (Nat × Value)} {vals : Nat → Value} {S : Nat → Bool} {o : Oper} (h : Held a n ops es vals S) (hout : ∀ d0, o.dst = some d0 → ∀ p ∈ es, d0 ≠ p.1) (hd : dstsOk n ops = true) {i : Nat}
    (hi : ops[i]? = some o) : Held (a.put o.dst (vals i)) n ops es vals (fun j => bif Nat.beq j i then true else S j) := by
  cases ho : o.dst with
  | none =>
    refine ⟨h.defers, h.size, h.outer, fun j oj d hj hdj hS => ?_⟩
    by_cases hji : j = i
    · subst hji
      have : oj = o := Option.some.inj (hj.symm.trans hi)
      subst this
      rw [ho] at hdj; cases hdj
    · rw [show Nat.beq j i = false from by
        cases hb : Nat.beq j i with
        | false => rfl
        | true => exact absurd (Nat.eq_of_beq_eq_true hb) hji] at hS
      exact h.inner j oj d hj hdj hS
  | some d0 =>
    have hlt : d0 < n := (dstsOk_spec hd i i o o d0 hi hi ho ho).2
    refine ⟨h.defers, by simp [Act.put, h.size], fun j v hv => ?_, fun j oj d hj hdj hS => ?_⟩
    · have hne : d0 ≠ j := by
        obtain ⟨p, hp, h1, _⟩ := env_mem hv
        rw [← h1]
        exact hout d0 ho p hp
      simp only [Act.put, Array.getElem?_setIfInBounds, if_neg hne]
      exact h.outer j v hv
    · by_cases hji : j = i
      · subst hji
        have : oj = o := Option.some.inj (hj.symm.trans hi)
        subst this
        rw [ho] at hdj
        cases hdj
        simp [Act.put, h.size, hlt]
      · rw [show Nat.beq j i = false from by
          cases hb : Nat.beq j i with
          | false => rfl
          | true => exact absurd (Nat.eq_of_beq_eq_true hb) hji] at hS
        have hne : d0 ≠ d := fun e => hji (dstsOk_spec hd j i oj o d hj hi hdj (e ▸ ho)).1
        simp only [Act.put, Array.getElem?_setIfInBounds, if_neg hne]
        exact h.inner j oj d hj hdj hS

/-- The plan, laid out: one function of values. -/
theorem plan_all {C : World → Prop} {es : List (Nat × Value)} {K : (Nat → Value) → Prop} (hlex : ∀ i o, ops[i]? = some o → ∀ e ∈ o.after, Region.binds .any e = true → e.on < i) :
    ∀ (l : List Oper) (k : Nat) (vals : Nat → Value), (∀ j, l[j]? = none ∨ l[j]? = ops[k + j]?) → plan P ops n C es K l k vals →
      ∃ vs : Nat → Value, (∀ j, j < k → vs j = vals j) ∧ K vs ∧ ∀ i o, k ≤ i → i < k + l.length → ops[i]? = some o → ∀ a w, Slots a n (predEnv ops o es vs) → C w → Yields P ops C o a w (vs i)
  | [], k, vals, _, h => ⟨vals, fun _ _ => rfl, h, fun i o h1 h2 => by simp at h2; omega⟩
  | o :: l, k, vals, hl, h => by
    obtain ⟨v, h1, h2⟩ := h
    have h0 : ops[k]? = some o := by
      rcases hl 0 with h | h
      · simp at h
      · simpa using h.symm
    obtain ⟨vs, e1, e2, e3⟩ := plan_all hlex l (k + 1) (vput vals k v) (fun j => by
      rcases hl (j + 1) with h | h
      · exact .inl (by simpa using h)
      · exact .inr (by rw [show k + 1 + j = k + (j + 1) by omega, ← h]; simp)) h2
    have ev : ∀ j, j < k → vs j = vals j := fun j hj => by
      rw [e1 j (by omega)]
      unfold vput
      rw [show Nat.beq j k = false from by
        cases hb : Nat.beq j k with
        | false => rfl
        | true => have := Nat.eq_of_beq_eq_true hb; omega]
      rfl
    refine ⟨vs, ev, e2, fun i o' hi1 hi2 ho' => ?_⟩
    by_cases hik : i = k
    · subst hik
      have : o' = o := Option.some.inj (ho'.symm.trans h0)
      subst this
      have hv : vs i = v := by
        rw [e1 i (by omega)]
        unfold vput
        rw [show Nat.beq i i = true from beq_self _]
        rfl
      rw [hv]
      intro a w hS hC
      refine h1 a w (hS.weaken ?_) hC
      have : predEnv ops o' es vals = predEnv ops o' es vs := by
        unfold predEnv
        congr 2
        refine filterMap_eq fun e he => ?_
        split
        · rename_i hb
          rw [ev e.on (hlex i o' ho' e (Array.mem_toList_iff.1 he) hb)]
        · rfl
      rw [this]
      exact fun i v h => h
    · exact e3 i o' (by omega) (by simp at hi2; omega) ho'

def lexicalB (ops : List Oper) : Bool := (List.range ops.length).all fun i => match ops[i]? with | none => true | some o => o.after.toList.all fun e => !Region.binds .any e || decide (e.on < i)

theorem lexicalB_spec (h : lexicalB ops = true) : ∀ i o, ops[i]? = some o → ∀ e ∈ o.after, Region.binds .any e = true → e.on < i := by
  intro i o ho e he hb
  have hlt : i < ops.length := (List.getElem?_eq_some_iff.1 ho).1
  have := List.all_eq_true.1 h i (List.mem_range.2 hlt)
  rw [ho] at this
  have := List.all_eq_true.1 this e (Array.mem_toList_iff.2 he)
  simpa [hb] using this

theorem reach_closed {S : Nat → Bool} (hc : ∀ i o, ops[i]? = some o → S i = true → ∀ e ∈ o.after, Region.binds .any e = true → S e.on = true) :
    ∀ (f i : Nat), (∀ o, ops[i]? = some o → ∀ e ∈ o.after, Region.binds .any e = true → S e.on = true) → ∀ j ∈ reach ops f i, S j = true
  | 0, _, _, j, hj => by simp [reach] at hj
  | f + 1, i, h, j, hj => by
    simp only [reach] at hj
    cases ho : ops[i]? with
    | none => simp [ho] at hj
    | some o =>
      simp only [ho, List.mem_flatMap] at hj
      obtain ⟨e, he, hj⟩ := hj
      split at hj
      · rename_i hb
        have hse := h o ho e (Array.mem_toList_iff.1 he) hb
        rcases List.mem_cons.1 hj with rfl | hj
        · exact hse
        · exact reach_closed hc f e.on (fun o' ho' => hc e.on o' ho' hse) j hj
      · cases hj

/-- **A region that draws its order**: its first t operations yield their values in whatever order; the others come last, in the order of the text. -/
theorem c_plan {id : Nat} {a : Act} {w : World} {E : Nat → Option Value} (t : Nat) (C : World → Prop) (es : List (Nat × Value)) (hm : P.follows .mixedOrders = true)
    (hB : (lexicalB ops && tailB ops t && dstsOk n ops && outside (ops.take t) es && decide (t ≤ ops.length)) = true) (hS : Slots a n E) (hes : allIn E es) (hC : C { w with drawn := w.drawn + 1 })
    (h : plan P ops n C es (fun vals => ∀ a w, Slots a n (env ((List.range t).filterMap (fun i => ((ops[i]?).bind (·.dst)).map (fun d => (d, vals i))) ++ es)) → C w → wpList P ops.toArray Q (ops.drop t) a w) (ops.take t) 0 (fun _ => undef)) :
    (Code.region id ops.toArray true).wp P Q a w := by
  simp only [Bool.and_eq_true, decide_eq_true_eq] at hB
  obtain ⟨⟨⟨⟨hlex, htail⟩, hdst⟩, hout⟩, hle⟩ := hB
  have hlex' := lexicalB_spec hlex
  obtain ⟨vs, -, hK, hall⟩ := plan_all hlex' (ops.take t) 0 (fun _ => undef) (fun j => by
    by_cases hj : j < t
    · exact .inr (by simp [hj])
    · exact .inl (by simp [List.getElem?_take, hj])) h
  have hlen : (ops.take t).length = t := by simp; omega
  rw [hlen] at hall
  refine wp_region_any hm ?_
  refine wpAny_inv (fun S a w => S.size = ops.length ∧ (∀ i o, ops[i]? = some o → S.getD i false = true → ∀ e ∈ o.after, Region.binds .any e = true → S.getD e.on false = true) ∧
    (((∃ i, i < t ∧ S.getD i false = false) ∧ Held a n ops es vs (fun i => S.getD i false && decide (i < t)) ∧ C w) ∨
     (∃ j, t ≤ j ∧ (∀ i, i < j → i < ops.length → S.getD i false = true) ∧ (∀ i, j ≤ i → S.getD i false = false) ∧ wpList P ops.toArray Q (ops.drop j) a w))) ?_ ?_ ?_ _ _ _ _ ?_ ?_
  · intro S a w i hi ⟨hsz, hcl, hI⟩
    obtain ⟨hun, o, ho, hpre⟩ := mem_ready.1 hi
    have ho' : ops[i]? = some o := by simpa using ho
    have hilt : i < ops.length := (List.getElem?_eq_some_iff.1 ho').1
    have hun' : S.getD i false = false := both_of hun
    have hcl' : ∀ k o, ops[k]? = some o → (S.setIfInBounds i true).getD k false = true → ∀ e ∈ o.after, Region.binds .any e = true → (S.setIfInBounds i true).getD e.on false = true := by
      intro k ok hk hSk e he hb
      refine getD_set_true ?_
      by_cases hki : i = k
      · subst hki
        have : ok = o := Option.some.inj (hk.symm.trans ho')
        subst this
        exact hpre e he hb
      · rw [getD_set_ne false hki] at hSk
        exact hcl k ok hk hSk e he hb
    have hsink : t ≤ i → ∀ j, j < i → S.getD j false = true := by
      intro hti j hji
      have h1 := List.all_eq_true.1 htail i (List.mem_range.2 hilt)
      simp only [Bool.or_eq_true, decide_eq_true_eq] at h1
      rcases h1 with h1 | h1
      · omega
      · have h2 := List.all_eq_true.1 h1 j (List.mem_range.2 hji)
        exact reach_closed (S := fun k => S.getD k false) hcl _ i (fun o2 ho2 e he hb => by
          have : o2 = o := Option.some.inj (ho2.symm.trans ho')
          subst this
          exact hpre e he hb) j (by simpa using h2)
    rcases hI with ⟨⟨k, hkt, hk⟩, hH, hCw⟩ | ⟨j, htj, hj1, hj2, hwp⟩
    · have hit : i < t := by
        rcases Nat.lt_or_ge i t with h | h
        · exact h
        · have := hsink h k (by omega)
          rw [hk] at this; cases this
      have hY := hall i o (Nat.zero_le _) (by omega) ho' a w (hH.slots (o := o) (fun e he hb => by
        have h1 := hpre e he hb
        have h2 := hlex' i o ho' e he hb
        simp only [h1, Bool.true_and, decide_eq_true_eq]
        omega)) hCw
      have hnext : ∀ w', C w' → (S.setIfInBounds i true).size = ops.length ∧ (∀ k o, ops[k]? = some o → (S.setIfInBounds i true).getD k false = true → ∀ e ∈ o.after, Region.binds .any e = true → (S.setIfInBounds i true).getD e.on false = true) ∧
          (((∃ k, k < t ∧ (S.setIfInBounds i true).getD k false = false) ∧ Held (a.put o.dst (vs i)) n ops es vs (fun k => (S.setIfInBounds i true).getD k false && decide (k < t)) ∧ C w') ∨
          (∃ j, t ≤ j ∧ (∀ k, k < j → k < ops.length → (S.setIfInBounds i true).getD k false = true) ∧ (∀ k, j ≤ k → (S.setIfInBounds i true).getD k false = false) ∧ wpList P ops.toArray Q (ops.drop j) (a.put o.dst (vs i)) w')) := by
        intro w' hC'
        refine ⟨by simpa using hsz, hcl', ?_⟩
        have hH' := hH.done (outside_spec hout (mem_take hit ho')) hdst ho'
        have heq : ∀ k, (S.setIfInBounds i true).getD k false = (bif Nat.beq k i then true else S.getD k false) := by
          intro k
          by_cases hki : k = i
          · subst hki
            rw [show Nat.beq k k = true from beq_self _]
            have : k < S.size := by omega
            simp [Array.getD_eq_getD_getElem?, this]
          · rw [show Nat.beq k i = false from by
              cases hb : Nat.beq k i with
              | false => rfl
              | true => exact absurd (Nat.eq_of_beq_eq_true hb) hki]
            rw [getD_set_ne false (fun e => hki e.symm)]
            rfl
        have hH'' : Held (a.put o.dst (vs i)) n ops es vs (fun k => (S.setIfInBounds i true).getD k false && decide (k < t)) := by
          refine ⟨hH'.defers, hH'.size, hH'.outer, fun k ok d hk hd hSk => hH'.inner k ok d hk hd ?_⟩
          simp only [Bool.and_eq_true, decide_eq_true_eq, heq] at hSk
          cases hb : Nat.beq k i with
          | true => rfl
          | false => rw [hb] at hSk; simp only [cond_false] at hSk ⊢; simp [hSk.1, hSk.2]
        by_cases hmore : ∃ k, k < t ∧ (S.setIfInBounds i true).getD k false = false
        · exact .inl ⟨hmore, hH'', hC'⟩
        · refine .inr ⟨t, Nat.le_refl _, ?_, ?_, ?_⟩
          · intro k hk _
            cases hb : (S.setIfInBounds i true).getD k false with
            | true => rfl
            | false => exact absurd ⟨k, hk, hb⟩ hmore
          · intro k hk
            have hki : i ≠ k := by omega
            rw [getD_set_ne false hki]
            cases hb : S.getD k false with
            | false => rfl
            | true =>
              -- a tail operation that has come up: then all ahead of it have, i among them
              exfalso
              have hkl : k < ops.length := by
                rcases Nat.lt_or_ge k ops.length with h | h
                · exact h
                · rw [Array.getD_eq_getD_getElem?, Array.getElem?_eq_none (by omega)] at hb
                  cases hb
              have h1 := List.all_eq_true.1 htail k (List.mem_range.2 hkl)
              simp only [Bool.or_eq_true, decide_eq_true_eq] at h1
              rcases h1 with h1 | h1
              · omega
              · have h2 := List.all_eq_true.1 h1 i (List.mem_range.2 (by omega))
                have := reach_closed (S := fun k => S.getD k false) hcl _ k (fun o2 ho2 => hcl k o2 ho2 hb) i (by simpa using h2)
                rw [hun'] at this; cases this
          · refine hK _ _ ⟨hH''.defers, hH''.size, fun d v hv => ?_⟩ hC'
            rcases env_append_spec hv with ⟨p, hp, h1, h2⟩ | hv
            · rw [List.mem_filterMap] at hp
              obtain ⟨k, hk, hpk⟩ := hp
              have hkt := List.mem_range.1 hk
              cases hok : ops[k]? with
              | none => simp [hok] at hpk
              | some ok =>
                cases hdk : ok.dst with
                | none => simp [hok, hdk] at hpk
                | some dk =>
                  simp [hok, hdk] at hpk
                  subst hpk
                  simp only at h1 h2
                  subst h1 h2
                  refine hH''.inner k ok dk hok hdk ?_
                  simp only [Bool.and_eq_true, decide_eq_true_eq]
                  refine ⟨?_, hkt⟩
                  cases hb : (S.setIfInBounds i true).getD k false with
                  | true => rfl
                  | false => exact absurd ⟨k, hkt, hb⟩ hmore
            · exact hH''.outer d v hv
      unfold wpOp
      simp only [ho]
      rcases hY with ⟨hw, hY⟩ | ⟨hw, hv⟩
      · rw [if_pos hw]
        refine .inl ?_
        unfold Oper.wp
        rcases hY with hY | ⟨f, args, hY, hcall⟩
        · rw [hY]
          exact hnext w hCw
        · rw [hY, Oper.upon_enter]
          refine hcall.mono ?_
          rintro e w' ⟨rfl, hC'⟩
          exact hnext w' hC'
      · rw [if_neg (by rw [hw]; simp)]
        rw [← hv]
        exact hnext w hCw
    · have hij : i = j := by
        rcases Nat.lt_trichotomy i j with h | h | h
        · have := hj1 i h hilt
          rw [hun'] at this; cases this
        · exact h
        · have := hsink (by omega) j h
          rw [hj2 j (Nat.le_refl _)] at this; cases this
      subst hij
      have hdrop : ops.drop i = o :: ops.drop (i + 1) := by
        rw [List.drop_eq_getElem_cons hilt]
        congr 1
        exact Option.some.inj ((List.getElem?_eq_getElem hilt).symm.trans ho')
      rw [hdrop] at hwp
      have hgo : ∀ a' w', wpList P ops.toArray Q (ops.drop (i + 1)) a' w' → (S.setIfInBounds i true).size = ops.length ∧ (∀ k o, ops[k]? = some o → (S.setIfInBounds i true).getD k false = true → ∀ e ∈ o.after, Region.binds .any e = true → (S.setIfInBounds i true).getD e.on false = true) ∧
          (((∃ k, k < t ∧ (S.setIfInBounds i true).getD k false = false) ∧ Held a' n ops es vs (fun k => (S.setIfInBounds i true).getD k false && decide (k < t)) ∧ C w') ∨
          (∃ j, t ≤ j ∧ (∀ k, k < j → k < ops.length → (S.setIfInBounds i true).getD k false = true) ∧ (∀ k, j ≤ k → (S.setIfInBounds i true).getD k false = false) ∧ wpList P ops.toArray Q (ops.drop j) a' w')) := by
        intro a' w' h
        refine ⟨by simpa using hsz, hcl', .inr ⟨i + 1, by omega, ?_, ?_, h⟩⟩
        · intro k hk hkl
          by_cases hki : i = k
          · subst hki
            have : i < S.size := by omega
            simp [Array.getD_eq_getD_getElem?, this]
          · exact getD_set_true (hj1 k (by omega) hkl)
        · intro k hk
          rw [getD_set_ne false (by omega)]
          exact hj2 k (by omega)
      unfold wpOp
      simp only [ho]
      unfold wpList at hwp
      split at hwp
      · rename_i hw
        rw [if_pos hw]
        rcases hwp with h | h
        · exact .inl (Oper.wp_mono (fun a' w' h => hgo a' w' h) h)
        · exact .inr h
      · rename_i hw
        rw [if_neg hw]
        exact hgo _ _ hwp
  · intro S a w hr ⟨hsz, hcl, hI⟩
    have hfull : ∀ i, i < ops.length → S.getD i false = true := by
      intro i
      induction i using Nat.strongRecOn with
      | _ i ih =>
        intro hi
        cases hb : S.getD i false with
        | true => rfl
        | false =>
          exfalso
          have : i ∈ Region.ready .any ops.toArray S := by
            rw [mem_ready]
            refine ⟨in_of (by omega) hb, ops[i], by simp [hi], fun e he hbi => ?_⟩
            have hlt := hlex' i ops[i] (List.getElem?_eq_getElem hi) e he hbi
            exact ih e.on hlt (by omega)
          rw [hr] at this; cases this
    rcases hI with ⟨⟨k, hkt, hk⟩, _, _⟩ | ⟨j, htj, hj1, hj2, hwp⟩
    · rw [hfull k (by omega)] at hk; cases hk
    · have : ops.length ≤ j := by
        rcases Nat.lt_or_ge j ops.length with h | h
        · have := hj2 j (Nat.le_refl _); rw [hfull j h] at this; cases this
        · exact h
      rw [List.drop_eq_nil_of_le this] at hwp
      exact hwp
  · intro S a w hI
    simpa using hI.1
  · simpa using (List.length_filter_le _ (List.range ops.length))
  · have hrep : ∀ i, (Array.replicate ops.toArray.size false).getD i false = false := fun i => replicate_false _ _
    refine ⟨by simp, fun i o _ hi => (by rw [hrep] at hi; cases hi), ?_⟩
    by_cases ht : 0 < t
    · refine .inl ⟨⟨0, ht, hrep 0⟩, ⟨hS.defers, hS.size, fun i v hv => (hS.to es hes).get i v hv, fun i o d _ _ hi => ?_⟩, hC⟩
      simp only [Bool.and_eq_true] at hi
      rw [hrep] at hi; cases hi.1
    · have h0 : t = 0 := by omega
      subst h0
      refine .inr ⟨0, Nat.le_refl _, fun i hi => by omega, fun i _ => hrep i, ?_⟩
      exact hK _ _ (by simpa using hS.to es hes) hC

end
end Go.Sym
