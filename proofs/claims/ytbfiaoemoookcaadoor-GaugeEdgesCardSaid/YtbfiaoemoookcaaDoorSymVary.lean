/-
  A region that draws its order, whatever it does: what each operation yields, and what memory is, told by which operations have come up and by what they have yielded.
-/
import Derived.Test.YtbfiaoemoookcaaDoorSymPlan
namespace Go.Sym
open Go Go.RowKit

section
variable {P : Program} {Q : Exit → Act → World → Prop} {n : Nat} {ops : List Oper}

def VYields (P : Program) (ops : List Oper) (o : Oper) (a : Act) (w : World) (R : Value → World → Prop) : Prop :=
  (Region.wanted o (yielded ops.toArray a.tmps) = true ∧
    ((∃ v w', ((execOp a.eval o).run P w = .ok (.value v) w' ∨ ((execOp a.eval o).run P w = .ok .skip w' ∧ o.dst = none ∧ v = undef)) ∧ R v w') ∨
     ∃ f args, (execOp a.eval o).run P w = .ok (.enter f args) w ∧ Calls P f args w (fun e w' => ∃ v, e = .returned v ∧ R v w'))) ∨
  (Region.wanted o (yielded ops.toArray a.tmps) = false ∧ R undef w)

/-- What is owed for operation i. -/
def vowe (P : Program) (ops : List Oper) (n : Nat) (C : (Nat → Bool) → (Nat → Value) → World → Prop) (es : List (Nat × Value)) (R : Nat → (Nat → Value) → Prop) (i : Nat) (o : Oper) : Prop :=
  ∀ (S : Nat → Bool) (V : Nat → Value) (a : Act) (w : World), (∀ j, (reach ops (ops.length + 1) i).contains j = true → S j = true) → (∀ k, (reach ops (ops.length + 1) k).contains i = true → S k = false) → S i = false →
    (∀ j, (reach ops (ops.length + 1) i).contains j = true → R j (msk undef ops j V)) → Slots a n (predEnv ops o es V) → C S V w →
    VYields P ops o a w (fun v w' => R i (msk undef ops i (gput V i v)) ∧ C (gput S i true) (gput V i v) w')

def vplan (P : Program) (ops : List Oper) (n : Nat) (C : (Nat → Bool) → (Nat → Value) → World → Prop) (es : List (Nat × Value)) (R : Nat → (Nat → Value) → Prop) : List Oper → Nat → Prop
  | [], _ => True
  | o :: rest, i => vowe P ops n C es R i o ∧ vplan P ops n C es R rest (i + 1)

theorem vplan_get {C : (Nat → Bool) → (Nat → Value) → World → Prop} {es : List (Nat × Value)} {R : Nat → (Nat → Value) → Prop} : ∀ {l : List Oper} {k : Nat}, vplan P ops n C es R l k → ∀ i o, l[i]? = some o → vowe P ops n C es R (k + i) o
  | [], _, _, i, o, h => by simp at h
  | o' :: l, k, hp, 0, o, h => by simp at h; subst h; exact hp.1
  | o' :: l, k, hp, i + 1, o, h => by
    simp only [List.getElem?_cons_succ] at h
    have := vplan_get hp.2 i o h
    rw [show k + (i + 1) = k + 1 + i by omega]
    exact this

set_option maxHeartbeats 1000000 in
/-- **A region that draws its order, whatever it does**: what each operation yields, and what memory is, by which operations have come up and what they have yielded. -/
theorem c_vplan {id : Nat} {a : Act} {w : World} {E : Nat → Option Value} (t : Nat) (C : (Nat → Bool) → (Nat → Value) → World → Prop) (es : List (Nat × Value)) (R : Nat → (Nat → Value) → Prop) (hm : P.follows .mixedOrders = true)
    (hB : (lexicalB ops && tailB ops t && dstsOk n ops && outside (ops.take t) es && decide (t ≤ ops.length) && decide (0 < t)) = true) (hS : Slots a n E) (hes : allIn E es) (hC : C (fun _ => false) (fun _ => undef) { w with drawn := w.drawn + 1 })
    (h : vplan P ops n C es R (ops.take t) 0)
    (hK : ∀ (V : Nat → Value) (a : Act) (w : World), (∀ i, i < t → R i (msk undef ops i V)) →
      Slots a n (env ((List.range t).filterMap (fun i => ((ops[i]?).bind (·.dst)).map (fun d => (d, V i))) ++ es)) →
      C (fun i => decide (i < t)) V w → wpList P ops.toArray Q (ops.drop t) a w) :
    (Code.region id ops.toArray true).wp P Q a w := by
  simp only [Bool.and_eq_true, decide_eq_true_eq] at hB
  obtain ⟨⟨⟨⟨⟨hlex, htail⟩, hdst⟩, hout⟩, hle⟩, ht0⟩ := hB
  have hlex' := lexicalB_spec hlex
  have hall : ∀ i o, i < t → ops[i]? = some o → vowe P ops n C es R i o := by
    intro i o hi ho
    have := vplan_get h i o (by rw [List.getElem?_take, if_pos hi]; exact ho)
    simpa using this
  refine wp_region_any hm ?_
  refine wpAny_inv (fun S a w => S.size = ops.length ∧ (∀ i o, ops[i]? = some o → S.getD i false = true → ∀ e ∈ o.after, Region.binds .any e = true → S.getD e.on false = true) ∧
    (((∃ i, i < t ∧ S.getD i false = false) ∧ ∃ V, Held a n ops es V (fun i => S.getD i false && decide (i < t)) ∧ (∀ i, i < t → S.getD i false = true → R i (msk undef ops i V)) ∧ C (fun i => S.getD i false) V w) ∨
     (∃ j, t ≤ j ∧ (∀ i, i < j → i < ops.length → S.getD i false = true) ∧ (∀ i, j ≤ i → S.getD i false = false) ∧ wpList P ops.toArray Q (ops.drop j) a w))) ?_ ?_ ?_ _ _ _ _ ?_ ?_
  · intro S a w i hi ⟨hsz, hcl, hI⟩
    obtain ⟨hun, o, ho, hpre⟩ := mem_ready.1 hi
    have ho' : ops[i]? = some o := by simpa using ho
    have hilt : i < ops.length := (List.getElem?_eq_some_iff.1 ho').1
    have hun' : S.getD i false = false := both_of hun
    have hcl' : ∀ k o, ops[k]? = some o → (S.setIfInBounds i true).getD k false = true → ∀ e ∈ o.after, Region.binds .any e = true → (S.setIfInBounds i true).getD e.on false = true := by
      intro k ok hk hSk e he hb
      refine getD_set_true ?_
      by_cases hki : i = k
      · subst hki
        have : ok = o := Option.some.inj (hk.symm.trans ho')
        subst this
        exact hpre e he hb
      · rw [getD_set_ne false hki] at hSk
        exact hcl k ok hk hSk e he hb
    have hreach : ∀ k ok, ops[k]? = some ok → (∀ e ∈ ok.after, Region.binds .any e = true → S.getD e.on false = true) → ∀ j, (reach ops (ops.length + 1) k).contains j = true → S.getD j false = true := by
      intro k ok hk hp j hj
      exact reach_closed (S := fun k => S.getD k false) hcl _ k (fun o2 ho2 e he hb => by
        have : o2 = ok := Option.some.inj (ho2.symm.trans hk)
        subst this
        exact hp e he hb) j (by simpa using hj)
    have hsink : t ≤ i → ∀ j, j < i → S.getD j false = true := by
      intro hti j hji
      have h1 := List.all_eq_true.1 htail i (List.mem_range.2 hilt)
      simp only [Bool.or_eq_true, decide_eq_true_eq] at h1
      rcases h1 with h1 | h1
      · omega
      · exact hreach i o ho' hpre j (List.all_eq_true.1 h1 j (List.mem_range.2 hji))
    rcases hI with ⟨⟨k, hkt, hk⟩, V, hH, hR, hCw⟩ | ⟨j, htj, hj1, hj2, hwp⟩
    · have hit : i < t := by
        rcases Nat.lt_or_ge i t with h | h
        · exact h
        · have := hsink h k (by omega)
          rw [hk] at this; cases this
      have hrl : ∀ j, (reach ops (ops.length + 1) i).contains j = true → j < t ∧ S.getD j false = true := by
        intro j hj
        have hSj := hreach i o ho' hpre j hj
        have hji : j < i := by
          have key : ∀ (f k : Nat), (∀ ok, ops[k]? = some ok → ∀ e ∈ ok.after, Region.binds .any e = true → e.on < k) → ∀ j ∈ reach ops f k, j < k := by
            intro f
            induction f with
            | zero => intro k _ j hj; simp [reach] at hj
            | succ f ih =>
              intro k hk j hj
              simp only [reach] at hj
              cases hok : ops[k]? with
              | none => simp [hok] at hj
              | some ok =>
                simp only [hok, List.mem_flatMap] at hj
                obtain ⟨e, he, hj⟩ := hj
                split at hj
                · rename_i hb
                  have hlt := hk ok hok e (Array.mem_toList_iff.1 he) hb
                  rcases List.mem_cons.1 hj with rfl | hj
                  · exact hlt
                  · have := ih e.on (fun ok' hok' e' he' hb' => hlex' e.on ok' hok' e' he' hb') j hj
                    omega
                · cases hj
          exact key _ i (fun ok hok e he hb => hlex' i ok hok e he hb) j (by simpa using hj)
        exact ⟨by omega, hSj⟩
      have hY := hall i o hit ho' (fun i => S.getD i false) V a w (fun j hj => (hrl j hj).2)
        (fun k hk => by
          cases hSk : S.getD k false with
          | false => rfl
          | true =>
            exfalso
            have hkl : k < ops.length := by
              rcases Nat.lt_or_ge k ops.length with h | h
              · exact h
              · rw [Array.getD_eq_getD_getElem?, Array.getElem?_eq_none (by omega)] at hSk
                cases hSk
            have h3 := hreach k ops[k] (List.getElem?_eq_getElem hkl) (hcl k ops[k] (List.getElem?_eq_getElem hkl) hSk) i hk
            rw [hun'] at h3; cases h3) hun'
        (fun j hj => hR j (hrl j hj).1 (hrl j hj).2)
        (hH.slots (o := o) (fun e he hb => by
          have h1 := hpre e he hb
          have h2 := hlex' i o ho' e he hb
          simp only [h1, Bool.true_and, decide_eq_true_eq]
          omega)) hCw
      have heq : ∀ k, (S.setIfInBounds i true).getD k false = (bif Nat.beq k i then true else S.getD k false) := by
        intro k
        by_cases hki : k = i
        · subst hki
          rw [show Nat.beq k k = true from beq_self _]
          have : k < S.size := by omega
          simp [Array.getD_eq_getD_getElem?, this]
        · rw [beq_ne hki, getD_set_ne false (fun e => hki e.symm)]
          rfl
      have hSS : (fun i' => (S.setIfInBounds i true).getD i' false) = gput (fun k => S.getD k false) i true := funext heq
      have hnext : ∀ v w', (R i (msk undef ops i (gput V i v)) ∧ C (gput (fun k => S.getD k false) i true) (gput V i v) w') → (S.setIfInBounds i true).size = ops.length ∧ (∀ k o, ops[k]? = some o → (S.setIfInBounds i true).getD k false = true → ∀ e ∈ o.after, Region.binds .any e = true → (S.setIfInBounds i true).getD e.on false = true) ∧
          (((∃ i', i' < t ∧ (S.setIfInBounds i true).getD i' false = false) ∧ ∃ V, Held (a.put o.dst v) n ops es V (fun i' => (S.setIfInBounds i true).getD i' false && decide (i' < t)) ∧ (∀ i', i' < t → (S.setIfInBounds i true).getD i' false = true → R i' (msk undef ops i' V)) ∧ C (fun i' => (S.setIfInBounds i true).getD i' false) V w') ∨
           (∃ j, t ≤ j ∧ (∀ i', i' < j → i' < ops.length → (S.setIfInBounds i true).getD i' false = true) ∧ (∀ i', j ≤ i' → (S.setIfInBounds i true).getD i' false = false) ∧ wpList P ops.toArray Q (ops.drop j) (a.put o.dst v) w')) := by
        rintro v w' ⟨hRi, hCi⟩
        rw [← hSS] at hCi
        refine ⟨by simpa using hsz, hcl', ?_⟩
        have hH1 := (hH.vput (i := i) (by simp only [hun', Bool.false_and]) v).done (outside_spec hout (mem_take hit ho')) hdst ho'
        rw [gput_self] at hH1
        have hH'' : Held (a.put o.dst v) n ops es (gput V i v) (fun k => (S.setIfInBounds i true).getD k false && decide (k < t)) := by
          refine ⟨hH1.defers, hH1.size, hH1.outer, fun k ok d hk hd hSk => hH1.inner k ok d hk hd ?_⟩
          simp only [Bool.and_eq_true, decide_eq_true_eq, heq] at hSk
          cases hb : Nat.beq k i with
          | true => rfl
          | false => rw [hb] at hSk; simp only [cond_false] at hSk ⊢; simp [hSk.1, hSk.2]
        have hR' : ∀ i', i' < t → (S.setIfInBounds i true).getD i' false = true → R i' (msk undef ops i' (gput V i v)) := by
          intro i' hi' hSi'
          by_cases hii : i' = i
          · subst hii; exact hRi
          · rw [getD_set_ne false (fun e => hii e.symm)] at hSi'
            have hne : ∀ j, (j = i' ∨ (reach ops (ops.length + 1) i').contains j = true) → j ≠ i := by
              rintro j (rfl | hj) e
              · exact hii e
              · subst e
                obtain ⟨oi', hoi'⟩ : ∃ oi', ops[i']? = some oi' := ⟨ops[i']'(by omega), by simp⟩
                have := hreach i' oi' hoi' (hcl i' oi' hoi' hSi') j hj
                rw [hun'] at this; cases this
            rw [msk_congr (V := gput V i v) (V' := V) (fun j hj => gput_ne _ _ (hne j hj))]
            exact hR i' hi' hSi'
        by_cases hmore : ∃ k, k < t ∧ (S.setIfInBounds i true).getD k false = false
        · exact .inl ⟨hmore, _, hH'', hR', hCi⟩
        · have hfull : ∀ k, k < t → (S.setIfInBounds i true).getD k false = true := by
            intro k hk
            cases hb : (S.setIfInBounds i true).getD k false with
            | true => rfl
            | false => exact absurd ⟨k, hk, hb⟩ hmore
          have hnot : ∀ k, t ≤ k → (S.setIfInBounds i true).getD k false = false := by
            intro k hk
            have hki : i ≠ k := by omega
            rw [getD_set_ne false hki]
            cases hb : S.getD k false with
            | false => rfl
            | true =>
              exfalso
              have hkl : k < ops.length := by
                rcases Nat.lt_or_ge k ops.length with h | h
                · exact h
                · rw [Array.getD_eq_getD_getElem?, Array.getElem?_eq_none (by omega)] at hb
                  cases hb
              have h1 := List.all_eq_true.1 htail k (List.mem_range.2 hkl)
              simp only [Bool.or_eq_true, decide_eq_true_eq] at h1
              rcases h1 with h1 | h1
              · omega
              · have h2 := List.all_eq_true.1 h1 i (List.mem_range.2 (by omega))
                obtain ⟨ok, hok⟩ : ∃ ok, ops[k]? = some ok := ⟨ops[k], by simp⟩
                have := hreach k ok hok (hcl k ok hok hb) i h2
                rw [hun'] at this; cases this
          refine .inr ⟨t, Nat.le_refl _, fun k hk _ => hfull k hk, hnot, ?_⟩
          · refine hK _ _ _ (fun i' hi' => hR' i' hi' (hfull i' hi')) ⟨hH''.defers, hH''.size, fun d u hv => ?_⟩ ?_
            · rcases env_append_spec hv with ⟨p, hp, h1, h2⟩ | hv
              · rw [List.mem_filterMap] at hp
                obtain ⟨k, hk, hpk⟩ := hp
                have hkt := List.mem_range.1 hk
                cases hok : ops[k]? with
                | none => simp [hok] at hpk
                | some ok =>
                  cases hdk : ok.dst with
                  | none => simp [hok, hdk] at hpk
                  | some dk =>
                    simp [hok, hdk] at hpk
                    subst hpk
                    simp only at h1 h2
                    subst h1 h2
                    refine hH''.inner k ok dk hok hdk ?_
                    simp only [hfull k hkt, hkt, decide_true, Bool.and_self]
              · exact hH''.outer d u hv
            · have h5 : (fun i' => (S.setIfInBounds i true).getD i' false) = fun i => decide (i < t) := by
                funext k
                by_cases hk : k < t
                · rw [hfull k hk]; simp [hk]
                · rw [hnot k (by omega)]; simp [hk]
              rw [← h5]
              exact hCi
      unfold wpOp
      simp only [ho]
      rcases hY with ⟨hw, hY⟩ | ⟨hw, hv⟩
      · rw [if_pos hw]
        refine .inl ?_
        unfold Oper.wp
        rcases hY with ⟨v, w', hY | ⟨hY, hnd, rfl⟩, hRi⟩ | ⟨f, args, hY, hcall⟩
        · rw [hY]
          exact hnext v w' hRi
        · rw [hY, Oper.upon_skip]
          exact hnext undef w' hRi
        · rw [hY, Oper.upon_enter]
          refine hcall.mono ?_
          rintro e w' ⟨v, rfl, hRi⟩
          exact hnext v w' hRi
      · rw [if_neg (by rw [hw]; simp)]
        exact hnext undef w hv
    · have hij : i = j := by
        rcases Nat.lt_trichotomy i j with h | h | h
        · have := hj1 i h hilt
          rw [hun'] at this; cases this
        · exact h
        · have := hsink (by omega) j h
          rw [hj2 j (Nat.le_refl _)] at this; cases this
      subst hij
      have hdrop : ops.drop i = o :: ops.drop (i + 1) := by
        rw [List.drop_eq_getElem_cons hilt]
        congr 1
        exact Option.some.inj ((List.getElem?_eq_getElem hilt).symm.trans ho')
      rw [hdrop] at hwp
      have hgo : ∀ a' w', wpList P ops.toArray Q (ops.drop (i + 1)) a' w' → (S.setIfInBounds i true).size = ops.length ∧ (∀ k o, ops[k]? = some o → (S.setIfInBounds i true).getD k false = true → ∀ e ∈ o.after, Region.binds .any e = true → (S.setIfInBounds i true).getD e.on false = true) ∧
          (((∃ i', i' < t ∧ (S.setIfInBounds i true).getD i' false = false) ∧ ∃ V, Held a' n ops es V (fun i' => (S.setIfInBounds i true).getD i' false && decide (i' < t)) ∧ (∀ i', i' < t → (S.setIfInBounds i true).getD i' false = true → R i' (msk undef ops i' V)) ∧ C (fun i' => (S.setIfInBounds i true).getD i' false) V w') ∨
           (∃ j, t ≤ j ∧ (∀ i', i' < j → i' < ops.length → (S.setIfInBounds i true).getD i' false = true) ∧ (∀ i', j ≤ i' → (S.setIfInBounds i true).getD i' false = false) ∧ wpList P ops.toArray Q (ops.drop j) a' w')) := by
        intro a' w' h
        refine ⟨by simpa using hsz, hcl', .inr ⟨i + 1, by omega, ?_, ?_, h⟩⟩
        · intro k hk hkl
          by_cases hki : i = k
          · subst hki
            have : i < S.size := by omega
            simp [Array.getD_eq_getD_getElem?, this]
          · exact getD_set_true (hj1 k (by omega) hkl)
        · intro k hk
          rw [getD_set_ne false (by omega)]
          exact hj2 k (by omega)
      unfold wpOp
      simp only [ho]
      unfold wpList at hwp
      split at hwp
      · rename_i hw
        rw [if_pos hw]
        rcases hwp with h | h
        · exact .inl (Oper.wp_mono (fun a' w' h => hgo a' w' h) h)
        · exact .inr h
      · rename_i hw
        rw [if_neg hw]
        exact hgo _ _ hwp
  · intro S a w hr ⟨hsz, hcl, hI⟩
    have hfull : ∀ i, i < ops.length → S.getD i false = true := by
      intro i
      induction i using Nat.strongRecOn with
      | _ i ih =>
        intro hi
        cases hb : S.getD i false with
        | true => rfl
        | false =>
          exfalso
          have : i ∈ Region.ready .any ops.toArray S := by
            rw [mem_ready]
            refine ⟨in_of (by omega) hb, ops[i], by simp [hi], fun e he hbi => ?_⟩
            have hlt := hlex' i ops[i] (List.getElem?_eq_getElem hi) e he hbi
            exact ih e.on hlt (by omega)
          rw [hr] at this; cases this
    rcases hI with ⟨⟨k, hkt, hk⟩, _⟩ | ⟨j, htj, hj1, hj2, hwp⟩
    · rw [hfull k (by omega)] at hk; cases hk
    · have : ops.length ≤ j := by
        rcases Nat.lt_or_ge j ops.length with h | h
        · have := hj2 j (Nat.le_refl _); rw [hfull j h] at this; cases this
        · exact h
      rw [List.drop_eq_nil_of_le this] at hwp
      exact hwp
  · intro S a w hI
    simpa using hI.1
  · simpa using (List.length_filter_le _ (List.range ops.length))
  · have hrep : ∀ i, (Array.replicate ops.toArray.size false).getD i false = false := fun i => replicate_false _ _
    refine ⟨by simp, fun i o _ hi => (by rw [hrep] at hi; cases hi), .inl ⟨⟨0, ht0, hrep 0⟩, fun _ => undef, ?_, ?_, ?_⟩⟩
    · refine ⟨hS.defers, hS.size, fun i v hv => (hS.to es hes).get i v hv, fun i o d _ _ hi => ?_⟩
      simp only [Bool.and_eq_true] at hi
      rw [hrep] at hi; cases hi.1
    · intro i _ hi; rw [hrep] at hi; cases hi
    · rw [show (fun i => (Array.replicate ops.toArray.size false).getD i false) = fun _ => false from funext hrep]
      exact hC

end

section
variable {P : Program} {ops : List Oper} {n : Nat} {o : Oper} {a : Act} {w w0 : World} {R : Value → World → Prop} {E : Nat → Option Value} {v : Value} {L : List Blk}
theorem vy_val (hg : o.guard = none) (hr : Run P a o w v) (hR : R v w) : VYields P ops o a w R := .inl ⟨by simp [Region.wanted, hg], .inl ⟨v, w, .inl hr, hR⟩⟩
theorem vy_valg {j dj : Nat} {b : Bool} {oj : Oper} (hS : Slots a n E) (hg : o.guard = some (j, b)) (hj : ops[j]? = some oj) (hdj : oj.dst = some dj) (hb : E dj = some (.bool b)) (hr : Run P a o w v) (hR : R v w) : VYields P ops o a w R :=
  .inl ⟨wanted_of hS hg hj hdj hb, .inl ⟨v, w, .inl hr, hR⟩⟩
theorem vy_skip {j dj : Nat} {b : Bool} {oj : Oper} (hS : Slots a n E) (hg : o.guard = some (j, b)) (hj : ops[j]? = some oj) (hdj : oj.dst = some dj) (hb : E dj = some (.bool !b)) (hR : R undef w) : VYields P ops o a w R :=
  .inr ⟨unwanted_of hS hg hj hdj hb, hR⟩
theorem vy_skipop {w' : World} (hg : o.guard = none) (hd : o.dst = none) (hr : (execOp a.eval o).run P w = .ok .skip w') (hR : R undef w') : VYields P ops o a w R := .inl ⟨by simp [Region.wanted, hg], .inl ⟨undef, w', .inr ⟨hr, hd, rfl⟩, hR⟩⟩
variable {dst : Option Nat} {ty : TypeId} {pos : String} {af : Array Edge} {g : Option (Nat × Bool)}
theorem vy_alloc {t : TypeId} {cs : List Value} (hz : Zero P t cs) (hM : Mem w0 w L) (hR : ∀ b w', w0.heap.size ≤ b → Mem w0 w' (⟨b, t, cs⟩ :: L) → R (ptr b 0) w') : VYields P ops ⟨dst, .alloc t, ty, pos, af, none⟩ a w R :=
  .inl ⟨by simp [Region.wanted], .inl ⟨ptr w.heap.size 0, _, .inl (by simp [execOp, hz w]), hR _ _ hM.size (hM.alloc t cs)⟩⟩
theorem vy_pure {f : FuncId} {xs : List Operand} {ats : Array TypeId} {vs : List Value} (hS : Slots a n E) (hx : evs E xs = some vs) (hc : Pure P f vs.toArray w v) (hM : Mem w0 w L) (hR : ∀ w', Mem w0 w' L → R v w') :
    VYields P ops ⟨dst, .call ⟨.value (.func f), xs.toArray, ats⟩, ty, pos, af, none⟩ a w R :=
  .inl ⟨by simp [Region.wanted], .inr ⟨f, _, run_call hc.ok hS hx, hc.calls.mono fun _ _ ⟨he, hm⟩ => ⟨v, he, hR _ (hM.after hm)⟩⟩⟩
/-- a whole block is written -/
theorem vy_storeAll {t : TypeId} {x y : Operand} {b j m : Nat} {bt : TypeId} {cs vs : List Value} (hS : Slots a n E) (hM : Mem w0 w L) (hx : ev E x = some (ptr b 0)) (hy : ev E y = some (.agg vs.toArray)) (hj : L[j]? = some ⟨b, bt, cs⟩)
    (hs : (P.info? t).map (·.size) = some m) (hvs : vs.length = m) (hcs : cs.length = m) (hv : ∀ v ∈ vs, v.oneCell' = true) (hR : ∀ w', Mem w0 w' (setAt L j vs) → R undef w') : VYields P ops ⟨none, .store t x y, ty, pos, af, none⟩ a w R := by
  obtain ⟨w', h1, h2⟩ := storeCells_run (P := P) vs cs 0 0 w hM hj hv (by omega)
  rw [Nat.zero_add, splice_all vs cs (by omega)] at h2
  refine vy_skipop rfl rfl ?_ (hR w' h2)
  simp [execOp, hS.eval hx, hS.eval hy, Instr.storeAt, Instr.sureAddr, ptr, storeVar, Value.cells, run_sizeOf (by rw [hs, hvs] : (P.info? t).map (·.size) = some vs.length), h1]

theorem vy_pureA {f : FuncId} {xs : List Operand} {ats : Array TypeId} {vs : List Value} (hS : Slots a n E) (hx : evs E xs = some vs) (hc : Pure P f vs.toArray w v) (hR : ∀ w', Mem w w' [] → R v w') :
    VYields P ops ⟨dst, .call ⟨.value (.func f), xs.toArray, ats⟩, ty, pos, af, none⟩ a w R :=
  .inl ⟨by simp [Region.wanted], .inr ⟨f, _, run_call hc.ok hS hx, hc.calls.mono fun _ _ ⟨he, hm⟩ => ⟨v, he, hR _ hm⟩⟩⟩
end

/-! ### a region that makes one variable, and writes it -/

def pb : Value → Nat
  | .pointer (some x) => x.block
  | _ => 0

/-- Operation p makes a block (z at first), operation q writes it (s then). -/
def AL (w0 : World) (p q : Nat) (T : TypeId) (z s : List Value) (L : List Blk) (S : Nat → Bool) (V : Nat → Value) (w : World) : Prop :=
  if S p then w0.heap.size ≤ pb (V p) ∧ Mem w0 w (⟨pb (V p), T, if S q then s else z⟩ :: L) else Mem w0 w L

section
variable {w w' w0 : World} {p q i : Nat} {T : TypeId} {z s : List Value} {L : List Blk} {S : Nat → Bool} {V : Nat → Value} {v : Value}
theorem AL.start (h : Mem w0 w L) : AL w0 p q T z s L (fun _ => false) V w := by unfold AL; exact h
theorem AL.low (h : AL w0 p q T z s L S V w) : Mem w0 w L := by
  unfold AL at h
  split at h
  · exact h.2.drop h.1
  · exact h
theorem AL.keep (h : AL w0 p q T z s L S V w) (hp : Nat.beq p i = false) (hq : Nat.beq q i = false) : AL w0 p q T z s L (gput S i true) (gput V i v) w := by
  unfold AL at h ⊢
  unfold gput
  rw [hp, hq]
  exact h
theorem AL.after (h : AL w0 p q T z s L S V w) (hm : Mem w w' []) : AL w0 p q T z s L S V w' := by
  unfold AL at h ⊢
  split
  · rename_i hp
    rw [if_pos hp] at h
    exact ⟨h.1, h.2.after hm⟩
  · rename_i hp
    rw [if_neg hp] at h
    exact h.after hm
theorem AL.made {b : Nat} (hq : S q = false) (hpq : Nat.beq q p = false) (hb : w0.heap.size ≤ b) (hM : Mem w0 w' (⟨b, T, z⟩ :: L)) : AL w0 p q T z s L (gput S p true) (gput V p (ptr b 0)) w' := by
  unfold AL
  rw [gput_self, gput_self, show gput S p true q = false by unfold gput; rw [hpq]; exact hq]
  exact ⟨hb, hM⟩
theorem AL.made0 {b : Nat} (hb : w0.heap.size ≤ b) (hM : Mem w0 w' (⟨b, T, z⟩ :: L)) : AL w0 p q T z z L (gput S p true) (gput V p (ptr b 0)) w' := by
  unfold AL
  rw [gput_self, gput_self, ite_self]
  exact ⟨hb, hM⟩
theorem AL.ahead (h : AL w0 p q T z s L S V w) (hp : S p = true) (hq : S q = false) : Mem w0 w (⟨pb (V p), T, z⟩ :: L) := by
  unfold AL at h
  rw [if_pos hp, hq] at h
  exact h.2
theorem AL.wrote (h : AL w0 p q T z s L S V w) (hp : S p = true) (hpq : Nat.beq p q = false) (hM : Mem w0 w' (⟨pb (V p), T, s⟩ :: L)) : AL w0 p q T z s L (gput S q true) (gput V q v) w' := by
  unfold AL at h ⊢
  rw [if_pos hp] at h
  rw [show gput S q true p = true by unfold gput; rw [hpq]; exact hp, gput_self, show gput V q v p = V p by unfold gput; rw [hpq]; rfl]
  exact ⟨h.1, hM⟩
theorem AL.stop (h : AL w0 p q T z s L S V w) (hp : S p = true) (hq : S q = true) : w0.heap.size ≤ pb (V p) ∧ Mem w0 w (⟨pb (V p), T, s⟩ :: L) := by
  unfold AL at h
  rw [if_pos hp, if_pos hq] at h
  exact h
theorem AL.stop0 (h : AL w0 p q T z s L S V w) (hp : S p = true) (hq : S q = false) : w0.heap.size ≤ pb (V p) ∧ Mem w0 w (⟨pb (V p), T, z⟩ :: L) := by
  unfold AL at h
  rw [if_pos hp, hq] at h
  exact h
end
end Go.Sym
