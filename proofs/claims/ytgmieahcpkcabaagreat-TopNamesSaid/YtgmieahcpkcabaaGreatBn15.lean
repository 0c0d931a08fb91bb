import Derived.Test.YtgmieahcpkcabaaGreatBn14
namespace Go.Proofs.YtgmieahcpkcabaaGreat
open Go Go.Sym Go.Ev Go.RowKit
set_option linter.unusedSectionVars false
noncomputable section
variable [Vl] {bs : Nm}
def gBlank : Orc := fun xs h => match xs with
  | [.c (.int .i64 (.ofNat m))] => bif Nat.ble m 16384 && Nat.blt h.nx 4096 then some (.c (.sl h.nx 0 m (some m)), (⟨h.h, h.nx + 1⟩ : Hp).put h.nx (some ⟨5, m, .lf (.int .u8 255), false, 0⟩)) else none
  | _ => none
theorem gBlank_ok : OrcF Tryz.prog 39 gBlank := by
  intro xs h v h' he bs vs w ha hR
  unfold gBlank at he
  split at he
  case h_2 => cases he
  rename_i m
  obtain ⟨hc, he⟩ := bcondO he
  cases he
  rw [Bool.and_eq_true] at hc
  have h1 := ble_le hc.1
  have h2 := blt_lt hc.2
  match vs, ha with
  | [u], ⟨hu, _⟩ =>
    have hu : u = N m := hu
    subst hu
    refine newrow_call hR (blank_ok m (by omega) w) (fun j hj => ⟨_, cells_get hj, ?_⟩) h1 h2
    rfl
def allT (l : List Nat) : Bool := l.all fun b => Nat.beq b 255
theorem fnL_at {l : List Nat} {i : Nat} (hb : ∀ b ∈ l, b < 256) (h : i < l.length) : (Ev.fnL l i).toNat = l[i] := by
  unfold Ev.fnL
  rw [BitVec.toNat_ofNat, List.getD_eq_getElem?_getD, List.getElem?_eq_getElem h]
  exact Nat.mod_eq_of_lt (hb _ (List.getElem_mem _))
theorem allU_of {p : Nat → Bool} : ∀ {m : Nat}, (∀ i, i < m → p i = true) → allU p m = true
  | 0, _ => rfl
  | m + 1, h => allU_step (allU_of fun i hi => h i (by omega)) (h m (by omega))
theorem all_blank {l : List Nat} (hb : ∀ b ∈ l, b < 256) : allU (blankU (Ev.fnL l)) l.length = allT l := by
  cases h : allT l with
  | true =>
    refine allU_of fun i hi => ?_
    have := beq_eq (List.all_eq_true.1 h _ (List.getElem_mem hi))
    unfold blankU
    rw [decide_eq_true]
    apply BitVec.eq_of_toNat_eq
    rw [fnL_at hb hi, this]; rfl
  | false =>
    obtain ⟨b, h1, h2⟩ := List.all_eq_false.1 h
    obtain ⟨i, hi, rfl⟩ := List.mem_iff_getElem.1 h1
    refine allU_no (i := i) ?_ hi
    unfold blankU
    rw [decide_eq_false]
    intro e
    have e2 := congrArg BitVec.toNat e
    rw [fnL_at hb hi] at e2
    rw [e2] at h2
    exact h2 rfl
def gIsBlank : Orc := fun xs h => match xs with
  | [v] => match rdB h v with
    | some bl => bif Nat.blt bl.length 4611686018427387904 then some (.c (.bool (allT bl)), h) else none
    | none => none
  | _ => none
theorem gIsBlank_ok : OrcF Tryz.prog 226 gIsBlank := by
  intro xs h v h' he bs vs w ha hR
  unfold gIsBlank at he
  split at he
  case h_2 => cases he
  split at he
  case h_2 => cases he
  rename_i bl hb
  obtain ⟨hc, he⟩ := bcondO he
  cases he
  match vs, ha with
  | [u], ⟨hu, _⟩ =>
    obtain ⟨hrd, h256, _⟩ := rdB_ok hR hu hb
    refine pure_call hR (isblank_ok w hrd (blt_lt hc)) ?_
    rw [all_blank h256]; rfl
def canL : List Nat → List Nat → Bool
  | a :: l, b :: r => Nat.beq (Nat.land a b) b && canL l r
  | _, _ => true
theorem and_not (a b : BitVec 8) : decide (b &&& ~~~a = 0#8) = Nat.beq (Nat.land a.toNat b.toNat) b.toNat := by
  have key : b &&& ~~~a = 0#8 ↔ a &&& b = b := by
    constructor
    · intro h
      apply BitVec.eq_of_getLsbD_eq
      intro i hi
      have := congrArg (fun x => x.getLsbD i) h
      simp only [BitVec.getLsbD_and, BitVec.getLsbD_not, BitVec.getLsbD_zero, hi, decide_true, Bool.true_and] at this ⊢
      cases ha : a.getLsbD i <;> cases hb : b.getLsbD i <;> simp [ha, hb] at this ⊢
    · intro h
      apply BitVec.eq_of_getLsbD_eq
      intro i hi
      have := congrArg (fun x => x.getLsbD i) h
      simp only [BitVec.getLsbD_and, BitVec.getLsbD_not, BitVec.getLsbD_zero, hi, decide_true, Bool.true_and] at this ⊢
      cases ha : a.getLsbD i <;> cases hb : b.getLsbD i <;> simp [ha, hb] at this ⊢
  have h2 : a &&& b = b ↔ Nat.land a.toNat b.toNat = b.toNat := by
    constructor
    · intro h; have := congrArg BitVec.toNat h; rwa [BitVec.toNat_and] at this
    · intro h; apply BitVec.eq_of_toNat_eq; rw [BitVec.toNat_and]; exact h
  cases hb : Nat.beq (Nat.land a.toNat b.toNat) b.toNat with
  | true => exact decide_eq_true (key.2 (h2.2 (beq_eq hb)))
  | false =>
    refine decide_eq_false fun h => ?_
    rw [h2.1 (key.1 h)] at hb
    rw [show Nat.beq b.toNat b.toNat = true from Nat.beq_refl _] at hb
    cases hb
theorem can_list : ∀ {l r : List Nat}, l.length = r.length → canL l r = (List.range l.length).all fun i => Nat.beq (Nat.land (l.getD i 0) (r.getD i 0)) (r.getD i 0)
  | [], [], _ => rfl
  | a :: l, b :: r, h => by
    rw [List.length_cons, List.range_succ_eq_map, List.all_cons, List.all_map, canL, can_list (by simpa using h)]
    rfl
  | [], _ :: _, h => by simp at h
  | _ :: _, [], h => by simp at h
theorem allU_range (p : Nat → Bool) : ∀ m, allU p m = (List.range m).all p
  | 0 => rfl
  | m + 1 => by rw [allU, allU_range p m, List.range_succ, List.all_append]; simp
theorem all_can {l r : List Nat} (hl : ∀ b ∈ l, b < 256) (hr : ∀ b ∈ r, b < 256) (h : l.length = r.length) : allU (canU (Ev.fnL l) (Ev.fnL r)) l.length = canL l r := by
  rw [can_list h, allU_range]
  refine Bool.eq_iff_iff.2 ?_
  simp only [List.all_eq_true, List.mem_range]
  constructor
  all_goals
    intro h1 i hi
    have h2 := h1 i hi
    unfold canU at *
    rw [and_not, fnL_at hl hi, fnL_at hr (by omega)] at *
    rw [List.getD_eq_getElem?_getD, List.getElem?_eq_getElem hi, List.getD_eq_getElem?_getD, List.getElem?_eq_getElem (by omega)] at *
    exact h2
def gCan1 : Orc := fun xs h => match xs with
  | [u, v] => match rdB h u, rdB h v with
    | some l, some r => bif Nat.blt l.length 4611686018427387904 && Nat.beq l.length r.length then some (.c (.bool (canL l r)), h) else none
    | _, _ => none
  | _ => none
theorem gCan1_ok : OrcF Tryz.prog 341 gCan1 := by
  intro xs h v h' he bs vs w ha hR
  unfold gCan1 at he
  split at he
  case h_2 => cases he
  split at he
  case h_2 => cases he
  rename_i l r h1 h2
  obtain ⟨hc, he⟩ := bcondO he
  cases he
  rw [Bool.and_eq_true] at hc
  match vs, ha with
  | [u1, u2], ⟨k1, k2, _⟩ =>
    obtain ⟨r1, b1, _⟩ := rdB_ok hR k1 h1
    obtain ⟨r2, b2, _⟩ := rdB_ok hR k2 h2
    have hl := beq_eq hc.2
    rw [← hl] at r2
    refine pure_call hR (can_ok w r1 r2 (blt_lt hc.1)) ?_
    rw [all_can b1 b2 hl]; rfl
def crcN : Nat → Nat → Nat
  | 0, x => x
  | k + 1, x => crcN k (bif Nat.beq (x % 2) 1 then Nat.xor (x / 2) 3988292384 else x / 2)
theorem and_one (x : BitVec 32) : x &&& 1#32 = 1#32 ↔ x.toNat % 2 = 1 := by
  rw [← Nat.and_one_is_mod]
  constructor
  · intro h; have := congrArg BitVec.toNat h; rwa [BitVec.toNat_and] at this
  · intro h; apply BitVec.eq_of_toNat_eq; rw [BitVec.toNat_and]; exact h
theorem crcU_next (x : BitVec 32) : ∀ k, crcU x (k + 1) = crcU (if x &&& 1#32 = 1#32 then (x >>> 1) ^^^ 3988292384#32 else x >>> 1) k
  | 0 => rfl
  | k + 1 => by rw [crcU, crcU_next x k, ← crcU]
theorem crcU_nat : ∀ (k : Nat) (x : BitVec 32), (crcU x k).toNat = crcN k x.toNat
  | 0, _ => rfl
  | k + 1, x => by
    rw [crcU_next, crcU_nat k, crcN]
    congr 1
    by_cases h : x &&& 1#32 = 1#32
    · rw [if_pos h, (and_one x).1 h, BitVec.toNat_xor, BitVec.toNat_ushiftRight, Nat.shiftRight_eq_div_pow]; rfl
    · rw [if_neg h, BitVec.toNat_ushiftRight, Nat.shiftRight_eq_div_pow]
      have h0 : x.toNat % 2 = 0 := by have := mt (and_one x).2 h; omega
      rw [h0]; rfl
def crcS (c b : Nat) : Nat := Nat.xor (c / 256) (crcN 8 (Nat.xor (c % 256) b))
def crcL : List Nat → Nat → Nat
  | [], c => c
  | b :: l, c => crcL l (crcS c b)
theorem crcL_eq (f : Nat → BitVec 8) : ∀ k, (crcG f k).toNat = crcL ((List.range k).map fun i => (f i).toNat) 4294967295
  | 0 => rfl
  | k + 1 => by
    have happ : ∀ (l : List Nat) (b c : Nat), crcL (l ++ [b]) c = crcS (crcL l c) b := by
      intro l
      induction l with
      | nil => intro b c; rfl
      | cons x l ih => intro b c; exact ih b _
    rw [List.range_succ, List.map_append, List.map_singleton, happ, ← crcL_eq f k, crcG, BitVec.toNat_xor, BitVec.toNat_ushiftRight, Nat.shiftRight_eq_div_pow, crcOne, crcU_nat]
    unfold crcS
    congr 1
    rw [BitVec.toNat_ofNat, BitVec.toNat_xor, BitVec.toNat_setWidth]
    congr 1
    refine Nat.mod_eq_of_lt ?_
    exact Nat.lt_of_lt_of_le (Nat.xor_lt_two_pow (Nat.mod_lt _ (by decide)) (f k).isLt) (by decide)
theorem crcL_list {l : List Nat} (hb : ∀ b ∈ l, b < 256) : (crcG (Ev.fnL l) l.length).toNat = crcL l 4294967295 := by
  rw [crcL_eq]
  congr 1
  apply List.ext_getElem
  · simp
  · intro i h1 h2
    simp only [List.getElem_map, List.getElem_range]
    exact fnL_at hb h2
def gCrc : Orc := fun xs h => match xs with
  | [v] => match rdB h v with
    | some bl => bif Nat.blt bl.length 4611686018427387904 then some (.c (.int .u32 (.ofNat (4294967295 - crcL bl 4294967295))), h) else none
    | none => none
  | _ => none
theorem gCrc_ok : OrcF Tryz.prog 285 gCrc := by
  intro xs h v h' he bs vs w ha hR
  unfold gCrc at he
  split at he
  case h_2 => cases he
  split at he
  case h_2 => cases he
  rename_i bl hb
  obtain ⟨hc, he⟩ := bcondO he
  cases he
  match vs, ha with
  | [u], ⟨hu, _⟩ =>
    obtain ⟨hrd, h256, _⟩ := rdB_ok hR hu hb
    refine pure_call hR (crcsum_ok w hrd (blt_lt hc)) ?_
    show W _ = Value.int .u32 _
    rw [← crcL_list h256]
    unfold W
    rw [BitVec.toNat_not]
    rfl
def gBegin : List V → Option V
  | [] => some (.agg ((List.range 8).map fun i => C.int .u64 (.ofNat (iv i).toNat)))
  | _ => none
theorem gBegin_ok : PureF Tryz.prog 131 gBegin := by
  intro xs v he bs vs w ha
  unfold gBegin at he
  split at he
  case h_2 => cases he
  cases he
  match vs, ha with
  | [], _ =>
    refine ⟨_, begin_ok w, ⟨_, CsR.of_get (by rw [List.length_map, List.length_range]; exact cells_len) fun i c u hc hu => ?_, rfl⟩⟩
    have hi : i < 8 := by have := (List.getElem?_eq_some_iff.1 hc).1; simpa using this
    rw [List.getElem?_map, List.getElem?_range hi] at hc
    cases hc
    rw [show (cU 8 iv)[i]? = some (U (iv i)) from cells_get hi] at hu
    cases hu
    rfl
end
end Go.Proofs.YtgmieahcpkcabaaGreat
namespace Go.Ev
open Go Go.Sym Go.RowKit
set_option linter.unusedSectionVars false
noncomputable section
variable [Vl]
variable {P : Program} {bs : Nm} {w w' : World} {h h' : Hp} {I : Info}
def p1Eq : P1 → P1 → Bool
  | .c a, .c b => cEq a b
  | .agg a, .agg b => csEq a b
  | _, _ => false
theorem p1Eq_ok : ∀ {a b : P1}, p1Eq a b = true → a = b
  | .c a, .c b, h => by rw [cEq_ok h]
  | .agg a, .agg b, h => by rw [csEq_ok h]
  | .c _, .agg _, h => by cases h
  | .agg _, .c _, h => by cases h
def p1sEq : List P1 → List P1 → Bool
  | [], [] => true
  | a :: l, b :: r => p1Eq a b && p1sEq l r
  | _, _ => false
theorem p1sEq_ok : ∀ {a b : List P1}, p1sEq a b = true → a = b
  | [], [], _ => rfl
  | _ :: _, _ :: _, h => by
    simp only [p1sEq, Bool.and_eq_true] at h
    rw [p1Eq_ok h.1, p1sEq_ok h.2]
  | [], _ :: _, h => by cases h
  | _ :: _, [], h => by cases h
def vEqT : V → V → Bool
  | .c a, .c b => cEq a b
  | .agg a, .agg b => csEq a b
  | .tup a, .tup b => p1sEq a b
  | _, _ => false
theorem vEqT_ok : ∀ {a b : V}, vEqT a b = true → a = b
  | .c a, .c b, h => by rw [cEq_ok h]
  | .agg a, .agg b, h => by rw [csEq_ok h]
  | .tup a, .tup b, h => by rw [p1sEq_ok h]
  | .c _, .agg _, h => by cases h
  | .c _, .tup _, h => by cases h
  | .agg _, .c _, h => by cases h
  | .agg _, .tup _, h => by cases h
  | .tup _, .c _, h => by cases h
  | .tup _, .agg _, h => by cases h
def vsEq : List V → List V → Bool
  | [], [] => true
  | a :: l, b :: r => vEqT a b && vsEq l r
  | _, _ => false
theorem vsEq_ok : ∀ {a b : List V}, vsEq a b = true → a = b
  | [], [], _ => rfl
  | _ :: _, _ :: _, h => by
    simp only [vsEq, Bool.and_eq_true] at h
    rw [vEqT_ok h.1, vsEq_ok h.2]
  | [], _ :: _, h => by cases h
  | _ :: _, [], h => by cases h
def litH (n : Nat) : List (Nat × Bl) → Hp
  | [] => ⟨.lf none, n⟩
  | (i, b) :: r => (litH n r).put i (some b)
theorem litH_nx {n : Nat} : ∀ l : List (Nat × Bl), (litH n l).nx = n
  | [] => rfl
  | _ :: r => litH_nx r
theorem litH_get {n : Nat} : ∀ {l : List (Nat × Bl)}, (∀ x ∈ l, x.1 < 4096) → ∀ {id b}, id < 4096 → (litH n l).get id = some b → (id, b) ∈ l
  | [], _, _, _, _, h => by cases h
  | (i, b') :: r, hl, id, b, hid, h => by
    rw [litH, Hp.get_put (hl (i, b') List.mem_cons_self) hid] at h
    by_cases e : id = i
    · rw [if_pos e] at h
      cases h
      rw [e]
      exact List.mem_cons_self
    · rw [if_neg e] at h
      exact List.mem_cons_of_mem _ (litH_get (fun x hx => hl x (List.mem_cons_of_mem _ hx)) hid h)
def hpLe (n : Nat) (l : List (Nat × Bl)) (h : Hp) : Bool := Nat.beq h.nx n && tellsB h l
variable {n : Nat} {l : List (Nat × Bl)}
theorem HR.sub (hR : HR w bs h) (hl : hpLe n l h = true) : HR w bs (litH n l) ∧ (∀ k, Owned (litH n l) bs k → Owned h bs k) ∧ h.nx = n := by
  simp only [hpLe, Bool.and_eq_true] at hl
  have hn := beq_eq hl.1
  have ht := tellsB_ok hl.2
  have hlt : ∀ x ∈ l, x.1 < 4096 := fun x hx => (ht x hx).elim fun _ h => h.2.2.2
  have hg : ∀ id b, id < 4096 → (litH n l).get id = some b → ∃ b0, h.get id = some b0 ∧ blEq b0 b = true := fun id b hid hb => by
    obtain ⟨b0, h1, h2, _⟩ := ht _ (litH_get hlt hid hb)
    exact ⟨b0, h1, h2⟩
  refine ⟨⟨fun id b hid hb => ?_, fun id id' b b' k hid hid' hb hb' e e' => ?_, hR.dom, fun id hid => ?_⟩, fun k ⟨id, b, hid, hb, e⟩ => ?_, hn⟩
  · obtain ⟨b0, h1, h2⟩ := hg id b hid hb
    obtain ⟨k, h3, cs, fr, c1, c2, c3, c4, c5, c6⟩ := hR.blk id b0 hid h1
    obtain ⟨e1, e2, e3, e4, e5⟩ := blEq_ok h2
    refine ⟨k, h3, cs, fr, by rw [e1]; exact c1, fun e => c2 (by rw [← e4]; exact e), by rw [e2]; exact c3, by rw [e2]; exact c4, by rw [e2, e3]; exact c5, fun j hj => ?_⟩
    rw [e2] at hj
    rw [e5 j hj]
    exact c6 j hj
  · obtain ⟨b0, h1, _⟩ := hg id b hid hb
    obtain ⟨b1, h2, _⟩ := hg id' b' hid' hb'
    exact hR.inj id id' b0 b1 k hid hid' h1 h2 e e'
  · rw [litH_nx] at hid
    exact hR.nx id (by omega)
  · obtain ⟨b0, h1, _⟩ := hg id b hid hb
    exact ⟨id, b0, hid, h1, e⟩
theorem After.of_sub {v : V} {u : Value} (hR : HR w bs h) (hl : hpLe n l h = true) (ha : After w bs (litH n l) v h' u w') : After w bs h v h' u w' := by
  obtain ⟨_, ho, hn⟩ := hR.sub hl
  obtain ⟨bs', h1, m, h3⟩ := ha
  have hx := litH_nx (n := n) l
  exact ⟨bs', h1, ⟨m.os, m.tape, m.output, m.size, m.le, by have := m.nx; omega, fun id hid => m.low id (by omega), fun k hk hno => m.old k hk fun h => hno (ho k h), fun k hk how => ho k (m.own k hk how), fun id k e hk => (m.range id k e hk).imp (fun h => h) (ho k)⟩, h3⟩
theorem After.to_sub {v : V} {u : Value} (ha : After w bs h v h' u w') (hl : hpLe n l h' = true) : After w bs h v (litH n l) u w' := by
  obtain ⟨bs', h1, m, h3⟩ := ha
  obtain ⟨h2, ho, hn⟩ := h1.sub hl
  have hx := litH_nx (n := n) l
  exact ⟨bs', h2, ⟨m.os, m.tape, m.output, m.size, m.le, by have := m.nx; omega, m.low, m.old, fun k hk how => m.own k hk (ho k how), m.range⟩, h3⟩
theorem CallR.imp {f : FuncId} {vs : Array Value} {R S : Value → World → Prop} (hc : CallR P f vs w R) (h : ∀ u w', R u w' → S u w') : CallR P f vs w S := by
  rcases hc with ⟨u, w', h1, h2⟩ | ⟨h1, h2⟩
  · exact .inl ⟨u, w', h1, h _ _ h2⟩
  · exact .inr ⟨h1, h2.mono fun e w' ⟨u, he, ha⟩ => ⟨u, he, h _ _ ha⟩⟩
variable {orcs : List (FuncId × Orc)} {m : Nat} {f : FuncId} {xs : List V} {v : V} {n' : Nat} {l' : List (Nat × Bl)}
def gCode (I : Info) (orcs : List (FuncId × Orc)) (m : Nat) (f : FuncId) : Orc := fun xs h => callF I (fun f => lookO f orcs) m f xs h
theorem gCode_ok (hI : IOk P I) (hF : FnOk P I) (hO : AllL (fun p => OrcF P p.1 p.2) orcs) : OrcF P f (gCode I orcs m f) := fun xs h v h' he bs vs w ha hR => callF_ok hI hF (orc_ok hO) m f xs h v h' he bs vs w ha hR
def gOr (a b : Orc) : Orc := fun xs h => match a xs h with
  | some r => some r
  | none => b xs h
theorem gOr_ok {a b : Orc} (h1 : OrcF P f a) (h2 : OrcF P f b) : OrcF P f (gOr a b) := by
  intro xs h v h' he
  unfold gOr at he
  split at he
  · rename_i r hr
    cases he
    exact h1 xs h v h' hr
  · exact h2 xs h v h' he
def pieceB (I : Info) (orcs : List (FuncId × Orc)) (m : Nat) (f : FuncId) (xs : List V) (n : Nat) (l : List (Nat × Bl)) (v : V) (n' : Nat) (l' : List (Nat × Bl)) : Bool := match gCode I orcs m f xs (litH n l) with
  | some (u, h') => vEqT u v && hpLe n' l' h'
  | none => false
def gPiece (xs : List V) (n : Nat) (l : List (Nat × Bl)) (v : V) (n' : Nat) (l' : List (Nat × Bl)) : Orc := fun ys h => bif Nat.beq h.nx n && (vsEq ys xs && hpLe n l h) then some (v, litH n' l') else none
theorem gPiece_ok (hI : IOk P I) (hF : FnOk P I) (hO : AllL (fun p => OrcF P p.1 p.2) orcs) (hp : pieceB I orcs m f xs n l v n' l' = true) : OrcF P f (gPiece xs n l v n' l') := by
  intro ys h v' h' he bs vs w ha hR
  unfold gPiece at he
  obtain ⟨hc, he⟩ := bcondO he
  simp only [Bool.and_eq_true] at hc
  cases he
  rw [vsEq_ok hc.2.1] at ha
  unfold pieceB at hp
  split at hp
  case h_2 => cases hp
  rename_i u h1 hr
  rw [Bool.and_eq_true] at hp
  have hv := vEqT_ok hp.1
  subst hv
  have := gCode_ok hI hF hO xs _ _ _ hr bs vs w ha (hR.sub hc.2.2).1
  exact this.imp fun u' w' hA => (hA.of_sub hR hc.2.2).to_sub hp.2
def intsB : List V → Bool
  | [] => true
  | .c (.int _ _) :: l => intsB l
  | _ => false
theorem intsB_ok : ∀ {l : List V} {vs : List Value}, intsB l = true → VsR bs l vs → VsR Nm.no l vs
  | [], [], _, _ => trivial
  | [], _ :: _, _, h => h.elim
  | .c (.int _ _) :: l, _ :: _, hb, ⟨h1, h2⟩ => ⟨h1, intsB_ok (l := l) hb h2⟩
  | .c (.int _ _) :: l, [], hb, h => h.elim
  | .c (.bool _) :: _, _, hb, _ => by cases hb
  | .c (.str _) :: _, _, hb, _ => by cases hb
  | .c .nilp :: _, _, hb, _ => by cases hb
  | .c (.ptr _ _) :: _, _, hb, _ => by cases hb
  | .c .nils :: _, _, hb, _ => by cases hb
  | .c (.sl _ _ _ _) :: _, _, hb, _ => by cases hb
  | .c .emp :: _, _, hb, _ => by cases hb
  | .c .nilf :: _, _, hb, _ => by cases hb
  | .c (.fn _ _) :: _, _, hb, _ => by cases hb
  | .c (.sy _ _) :: _, _, hb, _ => by cases hb
  | .agg _ :: _, _, hb, _ => by cases hb
  | .tup _ :: _, _, hb, _ => by cases hb
def freshB (I : Info) (orcs : List (FuncId × Orc)) (m : Nat) (f : FuncId) (xs : List V) (v : V) (n : Nat) (l : List (Nat × Bl)) : Bool := intsB xs && match gCode I orcs m f xs nilH with
  | some (u, h') => vEqT u v && hpLe n l h'
  | none => false
def gFresh (xs : List V) (v : V) (n : Nat) (l : List (Nat × Bl)) : Orc := fun ys h => bif vsEq ys xs && Nat.ble (h.nx + n) 4096 then some (shV h.nx v, shPut h.nx ⟨h.h, h.nx + n⟩ l) else none
theorem gFresh_ok (hI : IOk P I) (hF : FnOk P I) (hO : AllL (fun p => OrcF P p.1 p.2) orcs) (hp : freshB I orcs m f xs v n l = true) : OrcF P f (gFresh xs v n l) := by
  intro ys h v' h' he bs vs w ha hR
  unfold gFresh at he
  obtain ⟨hc, he⟩ := bcondO he
  simp only [Bool.and_eq_true] at hc
  cases he
  rw [vsEq_ok hc.1] at ha
  unfold freshB at hp
  rw [Bool.and_eq_true] at hp
  obtain ⟨hi, hp⟩ := hp
  split at hp
  case h_2 => cases hp
  rename_i u h1 hr
  simp only [hpLe, Bool.and_eq_true] at hp
  have hv := vEqT_ok hp.1
  subst hv
  have hn := beq_eq hp.2.1
  subst hn
  have := gCode_ok hI hF hO xs _ _ _ hr Nm.no vs w (intsB_ok hi ha) (HR.nil w)
  exact fresh_call hR this hp.2.2 (ble_le hc.2)
end
end Go.Ev
