/-
  What an operation waits for, reckoned with one number for each operation: for long regions, where the list of all paths grows too great.
-/
import Derived.Test.YtfojllcccncdbaaSymGrow
namespace Go.Sym
open Go Go.RowKit

def frn {α : Type} (k : Nat → α) : Nat → α
  | 0 => k 0
  | n + 1 => k (n + 1)
theorem frn_eq {α : Type} (k : Nat → α) (n : Nat) : frn k n = k n := by cases n <;> rfl
def rmk (acc : List Nat) (k : Nat) : List Edge → Nat
  | [] => 0
  | e :: l => bif Region.binds .any e then (2 ^ e.on ||| acc.getD (k - 1 - e.on) 0) ||| rmk acc k l else rmk acc k l
def rowsF : List Oper → Nat → List Nat → List Nat
  | [], _, acc => acc
  | o :: l, k, acc => frn (fun r => rowsF l (k + 1) (r :: acc)) (rmk acc k o.after.toList)
def rtab (ops : List Oper) : List Nat := rowsF ops 0 []
def rchB (tab : List Nat) (n i j : Nat) : Bool := Nat.testBit (tab.getD (n - 1 - i) 0) j

section
variable {ops : List Oper}
theorem reach_fuel (hl : lexicalB ops = true) : ∀ f g k, k < f → k < g → reach ops f k = reach ops g k
  | 0, _, _, h, _ => absurd h (Nat.not_lt_zero _)
  | _ + 1, 0, _, _, h => absurd h (Nat.not_lt_zero _)
  | f + 1, g + 1, k, h1, h2 => by
    show (match ops[k]? with | none => [] | some o => o.after.toList.flatMap fun e => if Region.binds .any e then e.on :: reach ops f e.on else []) = (match ops[k]? with | none => [] | some o => o.after.toList.flatMap fun e => if Region.binds .any e then e.on :: reach ops g e.on else [])
    cases ho : ops[k]? with
    | none => rfl
    | some o =>
      dsimp only
      have key : ∀ l : List Edge, (∀ e ∈ l, e ∈ o.after) → (l.flatMap fun e => if Region.binds .any e then e.on :: reach ops f e.on else []) = (l.flatMap fun e => if Region.binds .any e then e.on :: reach ops g e.on else []) := by
        intro l
        induction l with
        | nil => intro _; rfl
        | cons e l ih =>
          intro hm
          rw [List.flatMap_cons, List.flatMap_cons, ih (fun e he => hm e (List.mem_cons_of_mem _ he))]
          by_cases hb : Region.binds .any e = true
          · have hlt := lexicalB_spec hl k o ho e (hm e List.mem_cons_self) hb
            rw [if_pos hb, if_pos hb, reach_fuel hl f g e.on (by omega) (by omega)]
          · rw [if_neg hb, if_neg hb]
      exact key _ (fun e he => Array.mem_toList_iff.1 he)
theorem rmk_spec (acc : List Nat) (k j : Nat) : ∀ l : List Edge, (rmk acc k l).testBit j = true ↔ ∃ e ∈ l, Region.binds .any e = true ∧ (j = e.on ∨ (acc.getD (k - 1 - e.on) 0).testBit j = true)
  | [] => by simp [rmk]
  | e :: l => by
    have ih := rmk_spec acc k j l
    show (bif Region.binds .any e then (2 ^ e.on ||| acc.getD (k - 1 - e.on) 0) ||| rmk acc k l else rmk acc k l).testBit j = true ↔ _
    cases hb : Region.binds .any e with
    | false =>
      rw [cond_false, ih]
      constructor
      · rintro ⟨e', he, h⟩; exact ⟨e', List.mem_cons_of_mem _ he, h⟩
      · rintro ⟨e', he, h1, h2⟩
        rcases List.mem_cons.1 he with rfl | he
        · rw [hb] at h1; cases h1
        · exact ⟨e', he, h1, h2⟩
    | true =>
      rw [cond_true, Nat.testBit_or, Nat.testBit_or, Nat.testBit_two_pow, Bool.or_eq_true, Bool.or_eq_true, ih, decide_eq_true_eq]
      constructor
      · rintro ((h | h) | ⟨e', he, h⟩)
        · exact ⟨e, List.mem_cons_self, hb, .inl h.symm⟩
        · exact ⟨e, List.mem_cons_self, hb, .inr h⟩
        · exact ⟨e', List.mem_cons_of_mem _ he, h⟩
      · rintro ⟨e', he, h1, h2⟩
        rcases List.mem_cons.1 he with rfl | he
        · rcases h2 with h2 | h2
          · exact .inl (.inl h2.symm)
          · exact .inl (.inr h2)
        · exact .inr ⟨e', he, h1, h2⟩
def rgood (ops : List Oper) (k : Nat) (acc : List Nat) : Prop := acc.length = k ∧ ∀ i, i < k → ∀ j, (acc.getD (k - 1 - i) 0).testBit j = true ↔ j ∈ reach ops (ops.length + 1) i
theorem rowsF_good (hl : lexicalB ops = true) : ∀ (l : List Oper) (pre : List Oper) (acc : List Nat), ops = pre ++ l → rgood ops pre.length acc → rgood ops ops.length (rowsF l pre.length acc)
  | [], pre, acc, he, hg => by
    rw [List.append_nil] at he
    rw [he] at hg ⊢
    exact hg
  | o :: l, pre, acc, he, hg => by
    show rgood ops ops.length (frn (fun r => rowsF l (pre.length + 1) (r :: acc)) (rmk acc pre.length o.after.toList))
    rw [frn_eq]
    have h1 := rowsF_good hl l (pre ++ [o]) (rmk acc pre.length o.after.toList :: acc) (by rw [he]; simp) (by
      rw [List.length_append]
      refine ⟨by rw [List.length_cons, hg.1]; rfl, fun i hi j => ?_⟩
      show ((rmk acc pre.length o.after.toList :: acc).getD (pre.length + 1 - 1 - i) 0).testBit j = true ↔ _
      have hi' : i < pre.length + 1 := hi
      by_cases h : i = pre.length
      · subst h
        rw [show pre.length + 1 - 1 - pre.length = 0 by omega]
        show (rmk acc pre.length o.after.toList).testBit j = true ↔ _
        rw [rmk_spec]
        have ho : ops[pre.length]? = some o := by rw [he]; simp
        have hlen : pre.length < ops.length := by rw [he]; simp
        show _ ↔ j ∈ (match ops[pre.length]? with | none => [] | some o => o.after.toList.flatMap fun e => if Region.binds .any e then e.on :: reach ops ops.length e.on else [])
        rw [ho]
        dsimp only
        rw [List.mem_flatMap]
        constructor
        · rintro ⟨e, hm, hb, h⟩
          have hlt := lexicalB_spec hl _ o ho e (Array.mem_toList_iff.1 hm) hb
          refine ⟨e, hm, ?_⟩
          rw [if_pos hb]
          rcases h with h | h
          · rw [h]; exact List.mem_cons_self
          · rw [reach_fuel hl ops.length (ops.length + 1) e.on (by omega) (by omega)]
            exact List.mem_cons_of_mem _ ((hg.2 e.on hlt j).1 h)
        · rintro ⟨e, hm, h⟩
          by_cases hb : Region.binds .any e = true
          · have hlt := lexicalB_spec hl _ o ho e (Array.mem_toList_iff.1 hm) hb
            rw [if_pos hb] at h
            refine ⟨e, hm, hb, ?_⟩
            rcases List.mem_cons.1 h with h | h
            · exact .inl h
            · rw [reach_fuel hl ops.length (ops.length + 1) e.on (by omega) (by omega)] at h
              exact .inr ((hg.2 e.on hlt j).2 h)
          · rw [if_neg hb] at h; cases h
      · have hlt : i < pre.length := by omega
        rw [show pre.length + 1 - 1 - i = (pre.length - 1 - i) + 1 by omega]
        exact hg.2 i hlt j)
    rw [List.length_append] at h1
    exact h1
theorem rchB_eq (hl : lexicalB ops = true) {i : Nat} (hi : i < ops.length) (j : Nat) : (reach ops (ops.length + 1) i).contains j = rchB (rtab ops) ops.length i j := by
  have h := (rowsF_good hl ops [] [] rfl ⟨rfl, fun i hi => absurd hi (Nat.not_lt_zero i)⟩).2 i hi j
  rw [Bool.eq_iff_iff, List.contains_iff_mem]
  exact h.symm
def tailR (tab : List Nat) (n t : Nat) : Bool := (List.range n).all fun i => decide (i < t) || (List.range i).all fun j => rchB tab n i j

variable {P : Program} {Q : Exit → Act → World → Prop} {n : Nat}
def gowe2 (P : Program) (ops : List Oper) (tab : List Nat) (n : Nat) (w0 : World) (L : List Blk) (es : List (Nat × Value)) (R : Nat → Value → List Blk → Prop) (i : Nat) (o : Oper) : Prop :=
  ∀ (V : Nat → Value) (Bl : Nat → List Blk) (X : List Blk) (a : Act) (w : World),
    (∀ j, rchB tab ops.length i j = true → R j (V j) (Bl j)) →
    (∀ j, rchB tab ops.length i j = true → ∀ e ∈ Bl j, e ∈ X) → Slots a n (predEnv ops o es V) → Mem w0 w (X ++ L) → (∀ e ∈ X, w0.heap.size ≤ e.b) →
    GYields P ops o a w (fun v B w' => R i v B ∧ (∀ e ∈ B, w0.heap.size ≤ e.b) ∧ Mem w0 w' (B ++ (X ++ L)))
def gplan2 (P : Program) (ops : List Oper) (tab : List Nat) (n : Nat) (w0 : World) (L : List Blk) (es : List (Nat × Value)) (R : Nat → Value → List Blk → Prop) : List Oper → Nat → Prop
  | [], _ => True
  | o :: rest, i => gowe2 P ops tab n w0 L es R i o ∧ gplan2 P ops tab n w0 L es R rest (i + 1)
theorem msk_self {α : Type} (z : α) (i : Nat) (V : Nat → α) : msk z ops i V i = V i := by
  unfold msk; rw [beq_self, Bool.true_or, cond_true]
theorem gplan_of {tab : List Nat} {w0 : World} {L : List Blk} {es : List (Nat × Value)} {R : Nat → Value → List Blk → Prop} (hl : lexicalB ops = true) (ht : rtab ops = tab) : ∀ (l : List Oper) (k : Nat), k + l.length ≤ ops.length → gplan2 P ops tab n w0 L es R l k → gplan P ops n w0 (fun _ => L) es (fun i V Bl => R i (V i) (Bl i)) l k
  | [], _, _, _ => trivial
  | o :: l, k, hk, h => by
    rw [List.length_cons] at hk
    refine ⟨fun S V Bl X a w hp hs hR hX hS hM hn => ?_, gplan_of hl ht l (k + 1) (by omega) h.2⟩
    have e : ∀ j, (reach ops (ops.length + 1) k).contains j = rchB tab ops.length k j := fun j => by rw [← ht]; exact rchB_eq hl (by omega) j
    have := h.1 V Bl X a w (fun j hj => by have := hR j (by rw [e]; exact hj); dsimp only at this; rwa [msk_self, msk_self] at this) (fun j hj => hX j (by rw [e]; exact hj)) hS hM hn
    simp only [msk_self, gput_self]
    exact this
/-- **A region that draws its order and makes memory**, reckoned with numbers. -/
theorem c_mplan {id : Nat} {a : Act} {w w0 : World} {E : Nat → Option Value} (t : Nat) (tab : List Nat) (L : List Blk) (es : List (Nat × Value)) (R : Nat → Value → List Blk → Prop) (hm : P.follows .mixedOrders = true)
    (ht : rtab ops = tab) (hB : (lexicalB ops && tailR tab ops.length t && dstsOk n ops && outside (ops.take t) es && decide (t ≤ ops.length) && decide (0 < t)) = true) (hS : Slots a n E) (hes : allIn E es) (hM : Mem w0 w L)
    (h : gplan2 P ops tab n w0 L es R (ops.take t) 0)
    (hK : ∀ (V : Nat → Value) (Bl : Nat → List Blk) (a : Act) (w : World), (∀ i, i < t → R i (V i) (Bl i)) → (∀ i, i < t → ∀ e ∈ Bl i, w0.heap.size ≤ e.b) →
      Slots a n (env ((List.range t).filterMap (fun i => ((ops[i]?).bind (·.dst)).map (fun d => (d, V i))) ++ es)) →
      Mem w0 w ((List.range t).flatMap Bl ++ L) → wpList P ops.toArray Q (ops.drop t) a w) :
    (Code.region id ops.toArray true).wp P Q a w := by
  have hB' := hB
  simp only [Bool.and_eq_true, decide_eq_true_eq] at hB'
  obtain ⟨⟨⟨⟨⟨hlex, htail⟩, hdst⟩, hout⟩, hle⟩, ht0⟩ := hB'
  refine c_gplan t (fun _ => L) es (fun i V Bl => R i (V i) (Bl i)) hm ?_ hS hes hM (gplan_of hlex ht _ 0 (by rw [List.length_take]; omega) h) (fun V Bl a w hR hN hS hM => hK V Bl a w (fun i hi => by have := hR i hi; rwa [msk_self, msk_self] at this) hN hS hM)
  simp only [Bool.and_eq_true, decide_eq_true_eq]
  refine ⟨⟨⟨⟨⟨hlex, ?_⟩, hdst⟩, hout⟩, hle⟩, ht0⟩
  unfold tailB
  rw [List.all_eq_true]
  intro i hi
  have h1 := List.all_eq_true.1 htail i hi
  simp only [Bool.or_eq_true, decide_eq_true_eq, List.all_eq_true] at h1 ⊢
  rcases h1 with h1 | h1
  · exact .inl h1
  · exact .inr fun j hj => by rw [rchB_eq hlex (List.mem_range.1 hi), ht]; exact h1 j hj
end
end Go.Sym
