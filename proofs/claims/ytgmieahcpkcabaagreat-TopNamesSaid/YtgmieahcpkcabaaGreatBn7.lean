import Derived.Test.YtgmieahcpkcabaaGreatBn6
import Derived.Test.YtgmieahcpkcabaaGreatBn3
import Derived.Laws.Externs
import Derived.Laws.MathBits
import Derived.Test.YtgmieahcpkcabaaGreatBn2
namespace Go.Ev
open Go Go.Sym Go.RowKit
set_option linter.unusedSectionVars false
variable [Vl]
variable {P : Program} {I : Info} {n : Nat} {all : List Oper} {ks : List K} {call : FuncId → List V → Hp → Option (V × Hp)} {sF s : Fr} {hs : List Hp} {h h0 H : Hp} {w w0 w1 : World} {bs bs0 bs1 : Nm} {a : Act} {S : Nat → Bool} {i j : Nat} {o : Oper} {v : V} {u : Value}
theorem capsEq_ok : ∀ {l l' : List (Nat × Nat)}, capsEq l l' = true → l = l'
  | [], [], _ => rfl
  | (a, b) :: r, (c, d) :: t, h => by
    simp only [capsEq, Bool.and_eq_true] at h
    rw [beq_eq h.1.1, beq_eq h.1.2, capsEq_ok h.2]
  | [], _ :: _, h => by simp [capsEq] at h
  | _ :: _, [], h => by simp [capsEq] at h
theorem optEq_ok {a b : Option Nat} (h : optEq a b = true) : a = b := by
  cases a <;> cases b <;> simp only [optEq] at h
  · rfl
  · cases h
  · cases h
  · rw [beq_eq h]
theorem obEq_ok : ∀ {a b : Ob}, obEq a b = true → a = b
  | .var i, .var j, h => by rw [beq_eq (show Nat.beq i j = true from h)]
  | .op0 f, .op0 g, h => by rw [beq_eq (show Nat.beq f g = true from h)]
  | .op1 f a, .op1 g b, h => by
    simp only [obEq, Bool.and_eq_true] at h
    rw [beq_eq h.1, obEq_ok h.2]
  | .op2 f a b, .op2 g c d, h => by
    simp only [obEq, Bool.and_eq_true] at h
    rw [beq_eq h.1.1, obEq_ok h.1.2, obEq_ok h.2]
  | .op3 f a b c, .op3 g a' b' c', h => by
    simp only [obEq, Bool.and_eq_true] at h
    rw [beq_eq h.1.1.1, obEq_ok h.1.1.2, obEq_ok h.1.2, obEq_ok h.2]
theorem cEq_ok {a b : C} (h : cEq a b = true) : a = b := by
  unfold cEq at h
  split at h
  · rw [Bool.and_eq_true] at h
    obtain ⟨h1, h2⟩ := h
    split at h1
    · rename_i hk; rw [hk, of_decide_eq_true h2]
    · cases h1
  · rw [eq_of_beq h]
  · rw [eq_of_beq h]
  · rfl
  · rw [Bool.and_eq_true] at h; rw [beq_eq h.1, beq_eq h.2]
  · rfl
  · rfl
  · simp only [Bool.and_eq_true] at h; rw [beq_eq h.1.1.1, beq_eq h.1.1.2, beq_eq h.1.2, optEq_ok h.2]
  · rfl
  · rw [Bool.and_eq_true] at h; rw [beq_eq h.1, capsEq_ok h.2]
  · rw [Bool.and_eq_true] at h; rw [obEq_ok h.1, beq_eq h.2]
  · cases h
theorem csEq_ok : ∀ {l l' : List C}, csEq l l' = true → l = l'
  | [], [], _ => rfl
  | a :: r, b :: t, h => by
    simp only [csEq, Bool.and_eq_true] at h
    rw [cEq_ok h.1, csEq_ok h.2]
  | [], _ :: _, h => by simp [csEq] at h
  | _ :: _, [], h => by simp [csEq] at h
theorem vEq_ok {a b : V} (h : vEq a b = true) : a = b := by
  unfold vEq at h
  split at h
  · rw [cEq_ok h]
  · rw [csEq_ok h]
  · cases h
theorem readAll_ok {ρ : Env} {op : Op} : ∀ {l : List Hp}, readAll I ρ op v l = true → ∀ H ∈ l, ∃ h', op1 I ρ H 0 op = some (v, h')
  | [], _, H, hH => by cases hH
  | H0 :: l, h, H, hH => by
    simp only [readAll] at h
    split at h
    · rename_i v' h' h1
      rw [Bool.and_eq_true] at h
      rcases List.mem_cons.1 hH with rfl | hH
      · exact ⟨h', by rw [h1, ← vEq_ok h.1]⟩
      · exact readAll_ok h.2 H hH
    · cases h
theorem recheck_ok : ∀ {l : List Oper} {ks : List K}, recheck I all sF hs l ks = true → ∀ (i : Nat) (o : Oper) (lo hi : Nat), l[i]? = some o → ks[i]? = some (.r lo hi) → wanted all sF o.guard = some true →
    ∃ d v, o.dst = some d ∧ opd sF (.tmp d) = some v ∧ ∀ (j : Nat) H, lo ≤ j → j ≤ hi → hs[j]? = some H → ∃ h', op1 I (opd sF) H 0 o.op = some (v, h')
  | [], ks, _, i, o, lo, hi, hi', _, _ => by simp at hi'
  | o' :: l, [], _, i, o, lo, hi, _, hk, _ => by simp at hk
  | o' :: l, k :: ks, h, 0, o, lo, hi, ho, hk, hw => by
    simp at ho hk
    subst ho hk
    simp only [recheck] at h
    rw [hw] at h
    simp only at h
    split at h
    case h_2 => cases h
    rename_i d hd
    split at h
    case h_2 => cases h
    rename_i v hv
    rw [Bool.and_eq_true] at h
    refine ⟨d, v, hd, hv, fun j H h1 h2 h3 => readAll_ok h.1 H ?_⟩
    refine List.mem_of_getElem? (i := j - lo) ?_
    rw [List.getElem?_take, if_pos (by omega), List.getElem?_drop, show lo + (j - lo) = j by omega]
    exact h3
  | o' :: l, k :: ks, h, i + 1, o, lo, hi, ho, hk, hw => by
    rw [List.getElem?_cons_succ] at ho hk
    refine recheck_ok (l := l) (ks := ks) ?_ i o lo hi ho hk hw
    cases k with
    | r lo' hi' =>
      simp only [recheck] at h
      split at h
      · split at h
        case h_2 => cases h
        split at h
        case h_2 => cases h
        rw [Bool.and_eq_true] at h
        exact h.2
      · exact h
      · cases h
    | n => exact h
    | m js => exact h
    | f q => exact h
theorem rd_ok (hI : IOk P I) {ρ : Env} {h' : Hp} {nid : Nat} {op : Op} (hk : kindR I op = true) (hE : ER bs ρ a) (hR : HR w bs h) (he : op1 I ρ h nid op = some (v, h')) : RdOk P a w bs op v := by
  cases op with
  | load t x => exact (rd_load hI hE hR he).2
  | convert t d x =>
    simp only [kindR] at hk
    split at hk
    · rename_i hd
      simp only [op1, hd] at he
      obtain ⟨v', h1, h2⟩ := Option.map_eq_some_iff.1 he
      cases h2
      exact rd_str hI hE hR hd h1
    · cases hk
  | _ => simp [kindR] at hk
def Rch (all : List Oper) (i k : Nat) : Prop := (reach all (all.length + 1) i).contains k = true
def isMk : Op → Bool
  | .alloc _ => true
  | .box _ _ => true
  | .buildSlice _ _ _ => true
  | .makeSlice _ _ _ => true
  | _ => false
structure Stat (I : Info) (n : Nat) (all : List Oper) (ks : List K) : Prop where
  lex : lexicalB all = true
  dst : dstsOk n all = true
  looks : ∀ (i : Nat) (o : Oper), all[i]? = some o → ∀ t, (GLook all o t ∨ (OLook o t ∧ ks[i]? ≠ some .n)) → ∀ (k : Nat) (o' : Oper), all[k]? = some o' → o'.dst = some t → Rch all i k
  looksN : ∀ (i : Nat) (o : Oper), all[i]? = some o → ∀ t, OLook o t → ∀ (k : Nat) (o' : Oper), all[k]? = some o' → o'.dst = some t → Rch all i k ∨ Rch all k i ∨ k = i
  kn : ∀ (i : Nat) (o : Oper), all[i]? = some o → ks[i]? = some .n → kindN I o.op = true
  kr : ∀ (i : Nat) (o : Oper) lo hi, all[i]? = some o → ks[i]? = some (.r lo hi) → kindR I o.op = true ∧ (lo = 0 ∨ ∃ (e : Nat) (js : List Nat), ks[e]? = some (.m js) ∧ cntM (ks.take e) + 1 = lo ∧ Rch all i e) ∧ (hi = cntM ks ∨ ∃ (e : Nat) (js : List Nat), ks[e]? = some (.m js) ∧ cntM (ks.take e) = hi ∧ Rch all e i)
  km : ∀ (i : Nat) js, ks[i]? = some (.m js) → (∀ (e : Nat) js', e < i → ks[e]? = some (.m js') → Rch all i e) ∧ ∀ q ∈ js, ∃ e, ks[e]? = some (.f q) ∧ Rch all i e
  kf : ∀ (i : Nat) (o : Oper) q, all[i]? = some o → ks[i]? = some (.f q) → q < (floats ks).length ∧ o.guard = none ∧ isMk o.op = true
  uf : ∀ (i i' : Nat) q, ks[i]? = some (.f q) → ks[i']? = some (.f q) → i = i'
  nd : (allJ ks ++ endJ ks).Nodup
theorem reach_lt (hl : lexicalB all = true) : ∀ (f k : Nat), ∀ j ∈ reach all f k, j < k
  | 0, k, j, hj => by simp [reach] at hj
  | f + 1, k, j, hj => by
    simp only [reach] at hj
    cases hok : all[k]? with
    | none => simp [hok] at hj
    | some ok =>
      simp only [hok, List.mem_flatMap] at hj
      obtain ⟨e, he, hj⟩ := hj
      split at hj
      · rename_i hb
        have hlt := lexicalB_spec hl k ok hok e (Array.mem_toList_iff.1 he) hb
        rcases List.mem_cons.1 hj with rfl | hj
        · exact hlt
        · have := reach_lt hl f e.on j hj
          omega
      · cases hj
theorem Rch.lt (hl : lexicalB all = true) {i k : Nat} (h : Rch all i k) : k < i := reach_lt hl _ _ _ (by simpa [Rch] using h)
structure DI (I : Info) (n : Nat) (all : List Oper) (ks : List K) (s sF : Fr) (hs : List Hp) (w0 : World) (bs0 : Nm) (h0 : Hp) (S : Nat → Bool) (a : Act) (w : World) (bs : Nm) (j : Nat) (H : Hp) : Prop where
  defers : a.defers = []
  size : a.tmps.size = n
  out : ∀ t v, t < 512 → (∀ (k : Nat) o, all[k]? = some o → o.dst = some t → S k = false) → s.get t = some v → ∃ u, a.tmps[t]? = some u ∧ VR bs v u
  val : ∀ (i : Nat) o t v, all[i]? = some o → S i = true → o.dst = some t → sF.get t = some v → ∃ u, a.tmps[t]? = some u ∧ VR bs v u
  mains : ∀ (i : Nat) js, ks[i]? = some (.m js) → (S i = true ↔ cntM (ks.take i) < j)
  hj : hs[j]? = some H
  hr : HR w bs H
  mv : Mv w0 w bs0 bs h0 H
  nx : h0.nx + (floats ks).length ≤ H.nx
  fl : ∀ (i : Nat) q o qq b, ks[i]? = some (.f q) → all[i]? = some o → mk I (opd sF) o.op = some (qq, b) → jn ks j q = false → (S i = true → FR w0 w bs H (h0.nx + q) b) ∧ (S i = false → bs.b (h0.nx + q) = none ∧ bs.c (h0.nx + q) = none)
theorem put_ne {d : Option Nat} {t : Nat} (h : d ≠ some t) : (a.put d u).tmps[t]? = a.tmps[t]? := by
  cases d with
  | none => rfl
  | some d =>
    simp only [Act.put, Array.getElem?_setIfInBounds]
    rw [if_neg (fun e => h (by rw [e]))]
theorem put_self {t : Nat} (ht : t < a.tmps.size) : (a.put (some t) u).tmps[t]? = some u := by
  simp [Act.put, ht]
theorem put_size {d : Option Nat} : (a.put d u).tmps.size = a.tmps.size := by cases d <;> simp [Act.put]
theorem put_defers {d : Option Nat} : (a.put d u).defers = a.defers := by cases d <;> rfl
theorem DI.frame (hst : Stat I n all ks) (hd : DI I n all ks s sF hs w0 bs0 h0 S a w bs j H) (ho : all[i]? = some o) (hv : Val sF o v) (hr : VR bs1 v u) (hl : Le bs bs1) :
    (∀ t v, t < 512 → (∀ (k : Nat) o, all[k]? = some o → o.dst = some t → gput S i true k = false) → s.get t = some v → ∃ u', (a.put o.dst u).tmps[t]? = some u' ∧ VR bs1 v u') ∧
    ∀ (i' : Nat) o' t v', all[i']? = some o' → gput S i true i' = true → o'.dst = some t → sF.get t = some v' → ∃ u', (a.put o.dst u).tmps[t]? = some u' ∧ VR bs1 v' u' := by
  refine ⟨fun t v' ht hno hs' => ?_, fun i' o' t v' ho' hS ht hg => ?_⟩
  · have hne : ∀ (k : Nat) o', all[k]? = some o' → o'.dst = some t → k ≠ i := fun k o' h1 h2 e => by
      have := hno k o' h1 h2
      rw [e, gput_self] at this; cases this
    obtain ⟨u', h1, h2⟩ := hd.out t v' ht (fun k o' h1 h2 => by
      have := hno k o' h1 h2
      rwa [gput_ne S true (hne k o' h1 h2)] at this) hs'
    exact ⟨u', by rw [put_ne (fun e => hne i o ho e rfl)]; exact h1, h2.mono hl⟩
  · by_cases e : i' = i
    · subst e
      have : o' = o := Option.some.inj (ho'.symm.trans ho)
      subst this
      have htn := (dstsOk_spec hst.dst _ _ _ _ _ ho ho ht ht).2
      rw [hv t ht] at hg
      cases hg
      exact ⟨u, by rw [ht]; exact put_self (by rw [hd.size]; exact htn), hr⟩
    · rw [gput_ne S true e] at hS
      obtain ⟨u', h1, h2⟩ := hd.val i' o' t v' ho' hS ht hg
      refine ⟨u', ?_, h2.mono hl⟩
      rw [put_ne (fun h => e (dstsOk_spec hst.dst _ _ _ _ _ ho' ho ht h).1)]
      exact h1
theorem opd_ok' {x : Operand} (hx : ∀ t v, x = .tmp t → t < 512 → s.get t = some v → ∃ u, a.tmps[t]? = some u ∧ VR bs v u) (hv : opd s x = some v) : VR bs v (a.eval x) := by
  cases x with
  | tmp t =>
    simp only [opd] at hv
    obtain ⟨h1, h2⟩ := bcondO hv
    obtain ⟨u, h3, h4⟩ := hx t v rfl (blt_lt h1) h2
    have : a.eval (.tmp t) = u := by simp [Act.eval, h3]
    rw [this]; exact h4
  | const c => exact cst_ok hv
  | global g => cases hv
  | func f =>
    simp only [opd, Option.some.injEq] at hv
    subst hv
    exact ⟨[], trivial, rfl⟩
theorem DI.env (hd : DI I n all ks s sF hs w0 bs0 h0 S a w bs j H) (hfr : ∀ t, t < 512 → (∀ (k : Nat) o, all[k]? = some o → o.dst ≠ some t) → sF.get t = s.get t) {t : Nat} {v : V} (hl : ∀ (k : Nat) o', all[k]? = some o' → o'.dst = some t → S k = true) (ht : t < 512) (hg : sF.get t = some v) : ∃ u, a.tmps[t]? = some u ∧ VR bs v u := by
  by_cases hex : ∃ (k : Nat) (o' : Oper), all[k]? = some o' ∧ o'.dst = some t
  · obtain ⟨k, o', h1, h2⟩ := hex
    exact hd.val k o' t v h1 (hl k o' h1 h2) h2 hg
  · have hno : ∀ (k : Nat) o, all[k]? = some o → o.dst ≠ some t := fun k o' h1 h2 => hex ⟨k, o', h1, h2⟩
    exact hd.out t v ht (fun k o' h1 h2 => absurd h2 (hno k o' h1)) (by rw [← hfr t ht hno]; exact hg)
theorem mixEnv {l : List Operand} {s1 : Fr} (hat : ∀ t v, Operand.tmp t ∈ l → t < 512 → s1.get t = some v → ∃ u, a.tmps[t]? = some u ∧ VR bs v u) : ∃ ρ : Env, Same (opd s1) ρ l ∧ ER bs ρ a := by
  refine ⟨fun x => @ite _ (x ∈ l) (Classical.propDecidable _) (opd s1 x) none, fun x hx => (if_pos hx).symm, fun x v hx => ?_⟩
  have hx : @ite _ (x ∈ l) (Classical.propDecidable _) (opd s1 x) none = some v := hx
  by_cases hm : x ∈ l
  · rw [if_pos hm] at hx
    exact opd_ok' (fun t v e ht hg => hat t v (by rw [← e]; exact hm) ht hg) hx
  · rw [if_neg hm] at hx; cases hx
theorem DI.wants (hst : Stat I n all ks) (hd : DI I n all ks s sF hs w0 bs0 h0 S a w bs j H) (hfr : ∀ t, t < 512 → (∀ (k : Nat) o, all[k]? = some o → o.dst ≠ some t) → sF.get t = s.get t) (ho : all[i]? = some o) (hp : ∀ k, Rch all i k → S k = true) :
    ∀ b, wanted all sF o.guard = some b → Region.wanted o (yielded all.toArray a.tmps) = b := fun _ hb =>
  wanted_gen (fun j c oj t _ hg hj hd' ht hv => hd.env hfr (fun k o' h1 h2 => hp k (hst.looks i o ho t (.inl ⟨j, c, oj, hg, hj, hd'⟩) k o' h1 h2)) ht hv) hb
theorem DI.look (hst : Stat I n all ks) (hd : DI I n all ks s sF hs w0 bs0 h0 S a w bs j H) (hfr : ∀ t, t < 512 → (∀ (k : Nat) o, all[k]? = some o → o.dst ≠ some t) → sF.get t = s.get t) (ho : all[i]? = some o) (hk : ks[i]? ≠ some .n) (hp : ∀ k, Rch all i k → S k = true) :
    ∃ ρ : Env, Same (opd sF) ρ o.op.operands.toList ∧ ER bs ρ a :=
  mixEnv fun t _ hl ht hg => hd.env hfr (fun k o' h1 h2 => hp k (hst.looks i o ho t (.inr ⟨hl, hk⟩) k o' h1 h2)) ht hg
theorem DI.lookN (hst : Stat I n all ks) (hd : DI I n all ks s sF hs w0 bs0 h0 S a w bs j H) (hfr : ∀ t, t < 512 → (∀ (k : Nat) o, all[k]? = some o → o.dst ≠ some t) → sF.get t = s.get t) (ho : all[i]? = some o) (hp : ∀ k, Rch all i k → S k = true) (hno : ∀ e, Rch all e i → S e = false) (hS : S i = false) {s1 : Fr} (hat : FrAt all s sF i o s1) :
    ∃ ρ : Env, Same (opd s1) ρ o.op.operands.toList ∧ ER bs ρ a := by
  refine mixEnv fun t v hl ht hg => ?_
  obtain ⟨a1, a2⟩ := hat t hl ht
  by_cases hex : ∃ (k : Nat) (o' : Oper), all[k]? = some o' ∧ o'.dst = some t ∧ i ≤ k
  · obtain ⟨k, o', h1, h2, h3⟩ := hex
    rw [a2 k o' h1 h2 h3] at hg
    refine hd.out t v ht (fun k' o2 h4 h5 => ?_) hg
    have hkk := (dstsOk_spec hst.dst _ _ _ _ _ h1 h4 h2 h5).1
    subst hkk
    rcases hst.looksN i o ho t hl k o' h1 h2 with h6 | h6 | h6
    · have := Rch.lt hst.lex h6; omega
    · exact hno k h6
    · rw [h6]; exact hS
  · have hlt : ∀ (k : Nat) o', all[k]? = some o' → o'.dst = some t → k < i := fun k o' h1 h2 => by
      rcases Nat.lt_or_ge k i with h | h
      · exact h
      · exact absurd ⟨k, o', h1, h2, h⟩ hex
    rw [a1 hlt] at hg
    refine hd.env hfr (fun k o' h1 h2 => ?_) ht hg
    rcases hst.looksN i o ho t hl k o' h1 h2 with h6 | h6 | h6
    · exact hp k h6
    · have := Rch.lt hst.lex h6
      have := hlt k o' h1 h2
      omega
    · have := hlt k o' h1 h2; omega
end Go.Ev
namespace Go.Ev
open Go Go.Sym Go.RowKit
set_option linter.unusedSectionVars false
variable [Vl]
variable {P : Program} {I : Info} {n : Nat} {all : List Oper} {ks : List K} {call : FuncId → List V → Hp → Option (V × Hp)} {sF s : Fr} {hs : List Hp} {h h0 H : Hp} {w w0 w1 : World} {bs bs0 bs1 : Nm} {a : Act} {S : Nat → Bool} {i j : Nat} {o : Oper} {v : V} {u : Value}
theorem Does.mono {R R' : Value → World → Prop} (hd : Does P o a w R) (hr : ∀ u w', R u w' → R' u w') : Does P o a w R' := by
  rcases hd with ⟨u, w', h1, h2⟩ | ⟨f, vs, h1, h2⟩
  · exact .inl ⟨u, w', h1, hr _ _ h2⟩
  · exact .inr ⟨f, vs, h1, h2.mono fun e w' ⟨u, h3, h4⟩ => ⟨u, h3, hr _ _ h4⟩⟩
theorem RdOk.does' {o : Oper} {R : Value → World → Prop} (hp : RdOk P a w bs o.op v) (hr : ∀ u, VR bs v u → R u w) : Does P o a w R := by
  obtain ⟨d, op, ty, pos, af, g⟩ := o
  obtain ⟨u, h1, h2⟩ := hp d ty pos af g
  exact .inl ⟨u, w, .inl h1, hr u h2⟩
theorem undef_ok : VR bs (.tup []) undef := ⟨[], trivial, rfl⟩
theorem DI.still (hst : Stat I n all ks) (hd : DI I n all ks s sF hs w0 bs0 h0 S a w bs j H) (ho : all[i]? = some o) (hk : ∀ js, ks[i]? ≠ some (.m js)) (hk' : ∀ q, ks[i]? ≠ some (.f q)) (hv : Val sF o v) (hr : VR bs v u) :
    DI I n all ks s sF hs w0 bs0 h0 (gput S i true) (a.put o.dst u) w bs j H := by
  obtain ⟨f1, f2⟩ := hd.frame hst ho hv hr (Le.refl _)
  refine ⟨by rw [put_defers]; exact hd.defers, by rw [put_size]; exact hd.size, f1, f2, fun i' js h1 => ?_, hd.hj, hd.hr, hd.mv, hd.nx, fun i' q o' qq b h1 h2 h3 h4 => ?_⟩
  · have e : i' ≠ i := fun e => hk js (by rw [← e]; exact h1)
    rw [gput_ne S true e]; exact hd.mains i' js h1
  · have e : i' ≠ i := fun e => hk' q (by rw [← e]; exact h1)
    rw [gput_ne S true e]; exact hd.fl i' q o' qq b h1 h2 h3 h4
theorem Stat.ndJ (hst : Stat I n all ks) : (allJ ks).Nodup := (List.nodup_append.1 hst.nd).1
theorem DI.joined (hst : Stat I n all ks) (hd : DI I n all ks s sF hs w0 bs0 h0 S a w bs j H) {js : List Nat} (hk : ks[i]? = some (.m js)) (hj : cntM (ks.take i) = j) {Hj : Hp} {pd pd' : List (Nat × Bl)} (hpd : ∀ x ∈ pd, PF I all ks sF x)
    (hjo : joinL h0.nx js pd H = some (pd', Hj)) (hall : ∀ e, Rch all i e → S e = true) : HR w bs Hj ∧ Mv w0 w bs0 bs h0 Hj ∧ Hj.nx = H.nx ∧ ∀ q b, q ∉ js → FR w0 w bs H (h0.nx + q) b → FR w0 w bs Hj (h0.nx + q) b := by
  obtain ⟨n1, n2⟩ := jn_at hst.ndJ hk
  refine join_ok hjo n1 hd.hr hd.mv (fun x hx hxj => ?_)
  obtain ⟨e, oe, qq, h1, h2, h3⟩ := hpd x hx
  obtain ⟨e', h4, h5⟩ := (hst.km i js hk).2 x.1 hxj
  have he := hst.uf _ _ _ h4 h1
  subst he
  exact (hd.fl _ _ _ _ _ h1 h2 h3 (by rw [← hj]; exact (n2 x.1).2 hxj)).1 (hall _ h5)
theorem DI.main (hst : Stat I n all ks) (hd : DI I n all ks s sF hs w0 bs0 h0 S a w bs j H) (ho : all[i]? = some o) {js : List Nat} (hk : ks[i]? = some (.m js)) (hj : cntM (ks.take i) = j) (hv : Val sF o v) (hr : VR bs1 v u) {Hj H' : Hp} (hJ : HR w bs Hj ∧ Mv w0 w bs0 bs h0 Hj ∧ Hj.nx = H.nx ∧ ∀ q b, q ∉ js → FR w0 w bs H (h0.nx + q) b → FR w0 w bs Hj (h0.nx + q) b)
    (hH : hs[j + 1]? = some H') (hR : HR w1 bs1 H') (hM : Mv w w1 bs bs1 Hj H') :
    DI I n all ks s sF hs w0 bs0 h0 (gput S i true) (a.put o.dst u) w1 bs1 (j + 1) H' := by
  obtain ⟨j1, j2, j3, j4⟩ := hJ
  obtain ⟨n1, n2⟩ := jn_at hst.ndJ hk
  rw [hj] at n2
  obtain ⟨f1, f2⟩ := hd.frame hst ho hv hr hM.le
  have hnx := hd.nx
  refine ⟨by rw [put_defers]; exact hd.defers, by rw [put_size]; exact hd.size, f1, f2, fun i' js' h1 => ?_, hH, hR, j2.trans hM, by have := hM.nx; omega, fun i' q o' qq b h1 h2 h3 h4 => ?_⟩
  · by_cases e : i' = i
    · subst e
      rw [gput_self]
      exact ⟨fun _ => by omega, fun _ => rfl⟩
    · rw [gput_ne S true e, hd.mains i' js' h1]
      have hne : cntM (ks.take i') ≠ j := by
        rcases Nat.lt_or_gt_of_ne e with hlt | hlt
        · have := cntM_mono hlt h1; omega
        · have := cntM_mono hlt hk; omega
      omega
  · have e : i' ≠ i := fun e => by rw [e, hk] at h1; cases h1
    rw [gput_ne S true e]
    have hqn := (hst.kf i' o' q h2 h1).1
    have hjn := (n2 q).1
    rw [h4] at hjn
    have hjn := hjn.symm
    rw [Bool.or_eq_false_iff] at hjn
    have hq : q ∉ js := fun hq => by have := hjn.2; rw [List.contains_eq_mem, decide_eq_false_iff_not] at this; exact this hq
    obtain ⟨g1, g2⟩ := hd.fl i' q o' qq b h1 h2 h3 hjn.1
    have hlt : h0.nx + q < Hj.nx := by omega
    refine ⟨fun hS => (j4 q b hq (g1 hS)).move j1 hlt hM, fun hS => ?_⟩
    obtain ⟨l1, l2⟩ := hM.low _ hlt
    rw [l1, l2]
    exact g2 hS
theorem jn_ex : ∀ {ks : List K} {p q : Nat}, jn ks p q = true → ∃ (e : Nat) (js : List Nat), ks[e]? = some (.m js) ∧ cntM (ks.take e) < p ∧ q ∈ js
  | [], p, q, h => by simp [jn] at h
  | .m js :: r, 0, q, h => by simp [jn] at h
  | .m js :: r, p + 1, q, h => by
    simp only [jn, Bool.or_eq_true] at h
    rcases h with h | h
    · exact ⟨0, js, rfl, Nat.succ_pos _, by simpa using h⟩
    · obtain ⟨e, js', h1, h2, h3⟩ := jn_ex h
      exact ⟨e + 1, js', by rw [List.getElem?_cons_succ]; exact h1, by simp only [List.take_succ_cons, cntM]; omega, h3⟩
  | .n :: r, p, q, h => by obtain ⟨e, js', h1, h2, h3⟩ := jn_ex (ks := r) h; exact ⟨e + 1, js', by rw [List.getElem?_cons_succ]; exact h1, h2, h3⟩
  | .r _ _ :: r, p, q, h => by obtain ⟨e, js', h1, h2, h3⟩ := jn_ex (ks := r) h; exact ⟨e + 1, js', by rw [List.getElem?_cons_succ]; exact h1, h2, h3⟩
  | .f _ :: r, p, q, h => by obtain ⟨e, js', h1, h2, h3⟩ := jn_ex (ks := r) h; exact ⟨e + 1, js', by rw [List.getElem?_cons_succ]; exact h1, h2, h3⟩
theorem DI.flt (hst : Stat I n all ks) (hd : DI I n all ks s sF hs w0 bs0 h0 S a w bs j H) (ho : all[i]? = some o) {q : Nat} (hk : ks[i]? = some (.f q)) (hS : S i = false) (hno : ∀ e, Rch all e i → S e = false) {qq : Option (Nat × Nat)} {b : Bl} (hm : Go.Ev.mk I (opd sF) o.op = some (qq, b)) (hid : h0.nx + q < 4096) (h14 : b.len ≤ 16384)
    (hv : Val sF o (mkV (h0.nx + q) qq)) {cs : List Value} (hlen : b.len = cs.length) (htr : TR bs b.cs b.len cs) (hq : ∀ n m, qq = some (n, m) → n ≤ m) :
    DI I n all ks s sF hs w0 bs0 h0 (gput S i true) (a.put o.dst (mkU w.heap.size qq)) (w.alloc (.cells cs.toArray b.t (0, 0))) (nput bs (h0.nx + q) w.heap.size none) j H := by
  have hqn := (hst.kf i o q ho hk).1
  have hjn : jn ks j q = false := by
    cases hb : jn ks j q with
    | false => rfl
    | true =>
      obtain ⟨e, js, h1, h2, h3⟩ := jn_ex hb
      obtain ⟨e', h4, h5⟩ := (hst.km e js h1).2 q h3
      have := hst.uf _ _ _ h4 hk
      subst this
      have h6 := hno e h5
      rw [(hd.mains e js h1).2 h2] at h6
      cases h6
  obtain ⟨hnb, hnc⟩ := (hd.fl i q o qq b hk ho hm hjn).2 hS
  have hnx := hd.nx
  have hle := nput_le (k := w.heap.size) (q := none) hnb hnc
  have hE := alloc_ext w cs b.t
  obtain ⟨hg, hlt⟩ := alloc_get w cs b.t
  have hR' : HR (w.alloc (.cells cs.toArray b.t (0, 0))) (nput bs (h0.nx + q) w.heap.size none) H := hd.hr.named hid hnb hnc (by omega) hE hlt
  have hgone := hd.hr.gone hid hnb
  have hown : ∀ k, Owned H (nput bs (h0.nx + q) w.heap.size none) k → Owned H bs k := fun k ⟨i', c, hi, hc, hb⟩ => by
    have hne : i' ≠ h0.nx + q := fun e => by rw [e, hgone] at hc; cases hc
    rw [nput_ne hne] at hb
    exact ⟨i', c, hi, hc, hb⟩
  have hsz := hd.mv.size
  obtain ⟨f1, f2⟩ := hd.frame hst ho hv (mkV_ok (id := h0.nx + q) (k := w.heap.size) (c := none) (bs := bs) hq) hle
  have hownlt : ∀ k, Owned H bs k → k < w.heap.size := fun k ⟨i', c, hi, hc, hb⟩ => (hd.hr.dom i' k hb).2
  refine ⟨by rw [put_defers]; exact hd.defers, by rw [put_size]; exact hd.size, f1, f2, fun i' js h1 => ?_, hd.hj, hR', ?_, hd.nx, fun i' q' o' qq' b' h1 h2 h3 h4 => ?_⟩
  · have e : i' ≠ i := fun e => by rw [e, hk] at h1; cases h1
    rw [gput_ne S true e]; exact hd.mains i' js h1
  · have hm0 := hd.mv
    refine ⟨hE.os.trans hm0.os, hE.tape.trans hm0.tape, hE.output.trans hm0.output, Nat.le_trans hm0.size hE.size, hm0.le.trans hle, hm0.nx, fun id hid' => ?_, fun k hk' hn' => ?_, fun k hk' ho' => hm0.own k hk' (hown k ho'), fun id k hb hk' => ?_⟩
    · obtain ⟨l1, l2⟩ := hm0.low id hid'
      rw [nput_ne (by omega), nput_nec (by omega)]; exact ⟨l1, l2⟩
    · rw [hE.old k (by omega)]; exact hm0.old k hk' hn'
    · by_cases e : id = h0.nx + q
      · rw [e, nput_self] at hb; cases hb; omega
      · rw [nput_ne e] at hb; exact hm0.range id k hb hk'
  · by_cases e : i' = i
    · subst e
      rw [gput_self]
      rw [hk] at h1; cases h1
      have : o' = o := Option.some.inj (h2.symm.trans ho)
      subst this
      rw [hm] at h3
      cases h3
      refine ⟨fun _ => ⟨w.heap.size, nput_self, hsz, mk_br (bs := bs) hg (by omega) h14 (show cs.length = b.len by omega) htr hle, fun ho' => ?_, fun id' hb => ?_⟩, fun h => nomatch h⟩
      · have := hownlt _ (hown _ ho'); omega
      · by_cases e : id' = h0.nx + q
        · exact e
        · rw [nput_ne e] at hb; have := (hd.hr.dom id' _ hb).2; omega
    · rw [gput_ne S true e]
      have hqq : q' ≠ q := fun e2 => e (hst.uf _ _ _ h1 (by rw [e2]; exact hk))
      have hidn : h0.nx + q' ≠ h0.nx + q := by omega
      obtain ⟨g1, g2⟩ := hd.fl i' q' o' qq' b' h1 h2 h3 h4
      refine ⟨fun hS' => ?_, fun hS' => by rw [nput_ne hidn, nput_nec hidn]; exact g2 hS'⟩
      obtain ⟨k, k1, k2, k3, k4, k5⟩ := g1 hS'
      have hklt := (hd.hr.dom _ k k1).2
      refine ⟨k, by rw [nput_ne hidn]; exact k1, k2, k3.mono (hE.old k hklt) hle (nput_nec hidn), fun ho' => k4 (hown k ho'), fun id' hb => ?_⟩
      by_cases e2 : id' = h0.nx + q
      · rw [e2, nput_self] at hb; cases hb; omega
      · rw [nput_ne e2] at hb; exact k5 id' hb
end Go.Ev
namespace Go.Ev
open Go Go.Sym Go.RowKit
set_option linter.unusedSectionVars false
variable [Vl]
variable {P : Program} {I : Info} {n : Nat} {all : List Oper} {ks : List K} {call : FuncId → List V → Hp → Option (V × Hp)} {sF s s' : Fr} {hs : List Hp} {h h0 h' H : Hp} {w w0 w1 : World} {bs bs0 bs1 : Nm} {a : Act} {S : Nat → Bool} {i j : Nat} {o : Oper} {v : V} {u : Value}
theorem cntM_pre : ∀ {ks : List K} {i p : Nat}, p < cntM (ks.take i) → ∃ (e : Nat) (js : List Nat), e < i ∧ ks[e]? = some (.m js) ∧ cntM (ks.take e) = p
  | ks, i, p, h => by
    obtain ⟨e, js, h1, h2⟩ := cntM_ex h
    rw [List.getElem?_take] at h1
    by_cases he : e < i
    · rw [if_pos he] at h1
      refine ⟨e, js, he, h1, ?_⟩
      rw [List.take_take, Nat.min_eq_left (Nat.le_of_lt he)] at h2
      exact h2
    · rw [if_neg he] at h1; cases h1
theorem HR.room (hR : HR w bs h) (m : Nat) : HR w bs ⟨h.h, h.nx + m⟩ := hR.later (Nat.le_add_right _ _)
set_option maxHeartbeats 1000000 in
theorem DI.step (hI : IOk P I) (hC : CallOk P call) (hst : Stat I n all ks) (hd : DI I n all ks s sF hs w0 bs0 h0 S a w bs j H) (hfr : ∀ t, t < 512 → (∀ (k : Nat) o, all[k]? = some o → o.dst ≠ some t) → sF.get t = s.get t)
    (hlen : hs.length = cntM ks + 1) (hre : recheck I all sF hs all ks = true) {k : K} (ho : all[i]? = some o) (hk : ks[i]? = some k) (hf : FactK I call h0.nx all ks s sF hs (cntM (ks.take i)) i o k)
    (hp : ∀ k, Rch all i k → S k = true) (hno : ∀ e, Rch all e i → S e = false) (hS : S i = false) :
    (Region.wanted o (yielded all.toArray a.tmps) = true ∧ Does P o a w (fun u w' => ∃ bs' j' H', DI I n all ks s sF hs w0 bs0 h0 (gput S i true) (a.put o.dst u) w' bs' j' H')) ∨
    (Region.wanted o (yielded all.toArray a.tmps) = false ∧ ∃ bs' j' H', DI I n all ks s sF hs w0 bs0 h0 (gput S i true) (a.put o.dst undef) w bs' j' H') := by
  have hwant := hd.wants hst hfr ho hp
  have hlook := hd.look hst hfr ho
  have hjn : ∀ js, ks[i]? = some (.m js) → cntM (ks.take i) = j := fun js hk => by
    have h1 : ¬ cntM (ks.take i) < j := fun hlt => by have := (hd.mains i js hk).2 hlt; rw [hS] at this; cases this
    have h2 : cntM (ks.take i) ≤ j := by
      rcases Nat.lt_or_ge j (cntM (ks.take i)) with hlt | hge
      · obtain ⟨e, js', he, hke, hc⟩ := cntM_pre hlt
        have := (hd.mains e js' hke).1 (hp e ((hst.km i js hk).1 e js' he hke))
        omega
      · exact hge
    omega
  cases k with
  | n =>
    rcases hf with ⟨hw, v, s1, H0, h', _, he, hv, hat⟩ | ⟨hw, hv⟩
    · refine .inl ⟨hwant _ hw, ?_⟩
      obtain ⟨ρ, hsame, hE⟩ := hd.lookN hst hfr ho hp hno hS hat
      rw [kindN_ok (hst.kn i o ho hk)] at he
      obtain ⟨v', he2, hvv⟩ := Option.map_eq_some_iff.1 he
      cases hvv
      rw [pop_congr hsame] at he2
      exact ((pop_ok hI hE he2).rd).does' fun u hu => ⟨bs, j, H, hd.still hst ho (fun js e => by rw [hk] at e; cases e) (fun q e => by rw [hk] at e; cases e) hv hu⟩
    · exact .inr ⟨hwant _ hw, bs, j, H, hd.still hst ho (fun js e => by rw [hk] at e; cases e) (fun q e => by rw [hk] at e; cases e) hv undef_ok⟩
  | r lo hi =>
    rcases hf with ⟨hw, v, H0, h', _, he, hv⟩ | ⟨hw, hv⟩
    · refine .inl ⟨hwant _ hw, ?_⟩
      obtain ⟨ρ, hsame, hE⟩ := hlook (by rw [hk]; simp) hp
      obtain ⟨kr, klo, khi⟩ := hst.kr i o lo hi ho hk
      obtain ⟨d, v2, hd2, hv2, hall⟩ := recheck_ok hre i o lo hi ho hk hw
      have hvv : v2 = v := by
        have h1 := hv d hd2
        unfold opd at hv2
        obtain ⟨_, h2⟩ := bcondO hv2
        rw [h1] at h2
        exact (Option.some.inj h2).symm
      subst hvv
      have hj := hd.hj
      have hjl : j < hs.length := (List.getElem?_eq_some_iff.1 hj).1
      have l1 : lo ≤ j := by
        rcases klo with e | ⟨e, js, h1, h2, h3⟩
        · omega
        · have := (hd.mains e js h1).1 (hp e h3); omega
      have l2 : j ≤ hi := by
        rcases khi with e | ⟨e, js, h1, h2, h3⟩
        · omega
        · rcases Nat.lt_or_ge hi j with hlt | hge
          · have := (hd.mains e js h1).2 (by omega)
            rw [hno e h3] at this; cases this
          · exact hge
      obtain ⟨h2, he2⟩ := hall j H l1 l2 hj
      rw [op1_congr hsame] at he2
      exact (rd_ok hI kr hE hd.hr he2).does' fun u hu => ⟨bs, j, H, hd.still hst ho (fun js e => by rw [hk] at e; cases e) (fun q e => by rw [hk] at e; cases e) hv hu⟩
    · exact .inr ⟨hwant _ hw, bs, j, H, hd.still hst ho (fun js e => by rw [hk] at e; cases e) (fun q e => by rw [hk] at e; cases e) hv undef_ok⟩
  | m js =>
    obtain ⟨H0, Hj, H', pd, pd', hH, hH', hpd, hjo, hcase⟩ := hf
    obtain ⟨ρ, hsame, hE⟩ := hlook (by rw [hk]; simp) hp
    have hjj := hjn js hk
    rw [hjj] at hH hH'
    have hHH : H0 = H := Option.some.inj (hH.symm.trans hd.hj)
    subst hHH
    have hJ := hd.joined hst hk hjj hpd hjo hp
    rcases hcase with ⟨hw, v, hstep, hv⟩ | ⟨hw, rfl, hv⟩
    · refine .inl ⟨hwant _ hw, ?_⟩
      rw [step_congr hsame] at hstep
      exact (step_ok hI hC hE hJ.1 hstep).mono fun u w' ⟨bs', hR', hM', hu⟩ => ⟨bs', j + 1, H', hd.main hst ho hk hjj hv hu hJ hH' hR' hM'⟩
    · exact .inr ⟨hwant _ hw, bs, j + 1, H', hd.main hst ho hk hjj hv undef_ok hJ hH' hJ.1 (Mv.refl _ _ _)⟩
  | f q =>
    obtain ⟨qq, b, hm, hid, h14, hv⟩ := hf
    obtain ⟨ρ, hsame, hE⟩ := hlook (by rw [hk]; simp) hp
    obtain ⟨hq, hg, hmk⟩ := hst.kf i o q ho hk
    have hm' := hm
    rw [mk_congr hsame] at hm'
    obtain ⟨d0, op, ty, pos, af, g⟩ := o
    obtain ⟨cs, hrun, hl, htr, hqq⟩ := mk_ok hI hE hm' d0 ty pos af g w
    refine .inl ⟨by simp only at hg; simp [Region.wanted, hg], ?_⟩
    exact .inl ⟨_, _, .inl hrun, _, j, H, hd.flt hst ho hk hS hno hm hid h14 hv hl htr hqq⟩
set_option maxHeartbeats 1000000 in
theorem regD_ok (hI : IOk P I) (hC : CallOk P call) (hm : P.follows .mixedOrders = true) (hst : Stat I n all ks) {Q : Exit → Act → World → Prop} {id : Nat} (he : regD I call n all ks s h = some (s', h')) (hS : SR bs s a n) (hR : HR w bs h)
    (hQ : ∀ a' w' bs', SR bs' s' a' n → HR w' bs' h' → Mv w w' bs bs' h h' → Q .normal a' w') : (Code.region id all.toArray true).wp P Q a w := by
  unfold regD at he
  split at he
  case h_2 => cases he
  rename_i sF hs hF pF hrun
  obtain ⟨hre, he⟩ := bcondO he
  split at he
  case h_2 => cases he
  rename_i pE hE hjE
  simp only [Option.some.injEq, Prod.mk.injEq] at he
  obtain ⟨rfl, rfl⟩ := he
  have hlex := hst.lex
  have hap : ∀ (i : Nat) (o : Oper), all[i]? = some o → ∀ t, (GLook all o t ∨ (OLook o t ∧ ks[i]? ≠ some .n)) → ∀ (k : Nat) (o' : Oper), all[k]? = some o' → o'.dst = some t → k < i := fun i o ho t hl k o' hk hd => (hst.looks i o ho t hl k o' hk hd).lt hlex
  obtain ⟨f1, f2, f3, f4, f5, f6'⟩ := opsD_facts (ks0 := ks) hS.le hst.dst hap s all ks [] [] s _ [] sF hs hF pF rfl rfl rfl hrun (fun x hx => by cases hx) (fun _ _ _ => rfl)
  have f6 : ∀ (i : Nat) o k, all[i]? = some o → ks[i]? = some k → FactK I call h.nx all ks s sF hs (cntM (ks.take i)) i o k := fun i o k ho hk => by
    have := f6' i o k ho hk
    rwa [List.length_nil, Nat.zero_add] at this
  have hfr : ∀ t, t < 512 → (∀ (k : Nat) o, all[k]? = some o → o.dst ≠ some t) → sF.get t = s.get t := fun t ht hno =>
    opsD_frame hS.le all ks s _ [] sF hs hF pF hrun t ht fun o ho => by
      obtain ⟨k, hk⟩ := List.getElem?_of_mem ho
      exact hno k o hk
  have hkall : ∀ (i : Nat) o, all[i]? = some o → ∃ k, ks[i]? = some k := fun i o ho => by
    have hlt := (List.getElem?_eq_some_iff.1 ho).1
    exact ⟨ks[i]'(by omega), List.getElem?_eq_getElem (by omega)⟩
  refine wp_region_any hm ?_
  have hdr := hR.same (Ext.drew w)
  refine wpAny_inv (fun S a w' => S.size = all.length ∧ (∀ (i : Nat) o, all[i]? = some o → S.getD i false = true → ∀ e ∈ o.after, Region.binds .any e = true → S.getD e.on false = true) ∧
    ∃ bs' j H, DI I n all ks s sF hs w bs h (fun i => S.getD i false) a w' bs' j H) ?_ ?_ ?_ _ _ _ _ ?_ ?_
  · intro S a w' i hi ⟨hsz, hcl, bs', j, H, hd⟩
    obtain ⟨hun, o, ho, hpre⟩ := mem_ready.1 hi
    have ho' : all[i]? = some o := by simpa using ho
    have hun' : S.getD i false = false := both_of hun
    have hcl' : ∀ (k : Nat) o, all[k]? = some o → (S.setIfInBounds i true).getD k false = true → ∀ e ∈ o.after, Region.binds .any e = true → (S.setIfInBounds i true).getD e.on false = true := by
      intro k ok hk hSk e he hb
      refine getD_set_true ?_
      by_cases hki : i = k
      · subst hki
        have : ok = o := Option.some.inj (hk.symm.trans ho')
        subst this
        exact hpre e he hb
      · rw [getD_set_ne false hki] at hSk
        exact hcl k ok hk hSk e he hb
    have hlt : i < S.size := by rw [hsz]; exact (List.getElem?_eq_some_iff.1 ho').1
    have hSS : (fun i' => (S.setIfInBounds i true).getD i' false) = gput (fun k => S.getD k false) i true := by
      funext k
      by_cases hki : k = i
      · subst hki
        rw [gput_self]
        simp [Array.getD_eq_getD_getElem?, hlt]
      · rw [gput_ne _ _ hki, getD_set_ne false (fun e => hki e.symm)]
    have hp : ∀ k, Rch all i k → S.getD k false = true := fun k hk => by
      refine reach_closed (S := fun k => S.getD k false) hcl _ i (fun o2 ho2 e he hb => ?_) k (by simpa [Rch] using hk)
      have : o2 = o := Option.some.inj (ho2.symm.trans ho')
      subst this
      exact hpre e he hb
    have hno : ∀ e, Rch all e i → S.getD e false = false := fun e he => by
      cases hSe : S.getD e false with
      | false => rfl
      | true =>
        have := reach_closed (S := fun k => S.getD k false) hcl _ e (fun o2 ho2 => hcl e o2 ho2 hSe) i (by simpa [Rch] using he)
        rw [hun'] at this; cases this
    obtain ⟨k, hk⟩ := hkall i o ho'
    have hstep := hd.step hI hC hst hfr f2 hre ho' hk (f6 i o k ho' hk) hp hno hun'
    unfold wpOp
    simp only [ho]
    have hgo : ∀ u w2, (∃ bs' j' H', DI I n all ks s sF hs w bs h (gput (fun k => S.getD k false) i true) (a.put o.dst u) w2 bs' j' H') → (S.setIfInBounds i true).size = all.length ∧ (∀ (k : Nat) o, all[k]? = some o → (S.setIfInBounds i true).getD k false = true → ∀ e ∈ o.after, Region.binds .any e = true → (S.setIfInBounds i true).getD e.on false = true) ∧
        ∃ bs' j H, DI I n all ks s sF hs w bs h (fun i' => (S.setIfInBounds i true).getD i' false) (a.put o.dst u) w2 bs' j H := fun u w2 h2 => by
      rw [hSS]
      exact ⟨by simpa using hsz, hcl', h2⟩
    rcases hstep with ⟨hw, hdo⟩ | ⟨hw, h2⟩
    · rw [if_pos hw]
      exact .inl (hdo.wp fun u w2 h2 => hgo u w2 h2)
    · rw [if_neg (by rw [hw]; exact Bool.false_ne_true)]
      exact hgo undef w' h2
  · intro S a w' hr ⟨hsz, hcl, bs', j, H, hd⟩
    have hfull : ∀ i, i < all.length → S.getD i false = true := by
      intro i
      induction i using Nat.strongRecOn with
      | _ i ih =>
        intro hi
        cases hb : S.getD i false with
        | true => rfl
        | false =>
          exfalso
          have : i ∈ Region.ready .any all.toArray S := by
            rw [mem_ready]
            refine ⟨in_of (by omega) hb, all[i], by simp [hi], fun e he hbi => ?_⟩
            have hlt := lexicalB_spec hlex i all[i] (List.getElem?_eq_getElem hi) e he hbi
            exact ih e.on hlt (by omega)
          rw [hr] at this; cases this
    have hjl : j < hs.length := (List.getElem?_eq_some_iff.1 hd.hj).1
    have hj : j = cntM ks := by
      rcases Nat.lt_or_ge j (cntM ks) with hlt | hge
      · obtain ⟨e, js, h1, h2⟩ := cntM_ex hlt
        have hel : e < all.length := by rw [← f1]; exact (List.getElem?_eq_some_iff.1 h1).1
        have := (hd.mains e js h1).1 (hfull e hel)
        omega
      · omega
    subst hj
    have hH : H = hF := Option.some.inj (hd.hj.symm.trans f4)
    subst hH
    have hend : ∀ q ∈ endJ ks, jn ks (cntM ks) q = false := fun q hq => by
      cases hb : jn ks (cntM ks) q with
      | false => rfl
      | true => exact absurd rfl ((List.nodup_append.1 hst.nd).2.2 q (jn_mem hb) q hq)
    obtain ⟨r1, r2, _, _⟩ := join_ok hjE (List.nodup_append.1 hst.nd).2.1 hd.hr hd.mv (fun x hx hxj => by
      obtain ⟨e, oe, qq, h1, h2, h3⟩ := f5 x hx
      exact (hd.fl e x.1 oe qq x.2 h1 h2 h3 (hend x.1 hxj)).1 (hfull e (List.getElem?_eq_some_iff.1 h2).1))
    refine hQ a w' bs' ⟨hd.defers, hd.size, hS.le, fun d v hlt hv => ?_⟩ r1 r2
    exact hd.env hfr (S := fun i => S.getD i false) (fun k o' h1 _ => hfull k (List.getElem?_eq_some_iff.1 h1).1) hlt hv
  · intro S a w' hI'
    simpa using hI'.1
  · simpa using (List.length_filter_le _ (List.range all.length))
  · have hrep : ∀ i, (Array.replicate all.toArray.size false).getD i false = false := fun i => replicate_false _ _
    refine ⟨by simp, fun i o _ hi => (by rw [hrep] at hi; cases hi), bs, 0, ⟨h.h, h.nx + (floats ks).length⟩, ?_⟩
    refine ⟨hS.defers, hS.size, fun t v ht _ hv => hS.get t v ht hv, fun i o t v _ hi => (by simp only [hrep] at hi; cases hi), fun i js hk => ?_, f3, ?_, ?_, Nat.le_refl _, fun i q o qq b hk ho hm' hjn => ⟨fun hi => (by simp only [hrep] at hi; cases hi), fun _ => hR.nx (h.nx + q) (Nat.le_add_right _ _)⟩⟩
    · refine ⟨fun e => ?_, fun e => absurd e (Nat.not_lt_zero _)⟩
      have e2 : (Array.replicate all.toArray.size false).getD i false = true := e
      rw [hrep] at e2; cases e2
    · exact hdr.1.room _
    · exact hdr.2.later (Nat.le_add_right _ _)
end Go.Ev
namespace Go.Ev
open Go Go.Sym Go.RowKit
set_option linter.unusedSectionVars false
variable [Vl]
variable {P : Program} {I : Info} {n : Nat} {all : List Oper} {ks : List K}
def isTmp (t : Nat) : Operand → Bool
  | .tmp t' => Nat.beq t t'
  | _ => false
def gdst (all : List Oper) : Option (Nat × Bool) → Option Nat
  | some (j, _) => match all[j]? with
    | some oj => oj.dst
    | none => none
  | none => none
def isN : K → Bool
  | .n => true
  | _ => false
def oLookB (o : Oper) (t : Nat) : Bool := o.op.operands.toList.any (isTmp t)
def gLookB (all : List Oper) (o : Oper) (t : Nat) : Bool := optEq (gdst all o.guard) (some t)
def mainAt (ks : List K) (p : Nat → Nat → Bool) : Bool := (List.range ks.length).any fun e => match ks[e]? with
  | some (.m _) => p e (cntM (ks.take e))
  | _ => false
def kB (I : Info) (r : Nat → Nat → Bool) (ks : List K) (o : Oper) (i : Nat) : K → Bool
  | .n => kindN I o.op
  | .r lo hi => kindR I o.op && (Nat.beq lo 0 || mainAt ks fun e c => Nat.beq (c + 1) lo && r i e) && (Nat.beq hi (cntM ks) || mainAt ks fun e c => Nat.beq c hi && r e i)
  | .m js => ((List.range i).all fun e => match ks[e]? with
      | some (.m _) => r i e
      | _ => true) && js.all fun q => (List.range ks.length).any fun e => match ks[e]? with
      | some (.f q') => Nat.beq q q' && r i e
      | _ => false
  | .f q => Nat.blt q (floats ks).length && (match o.guard with | none => true | some _ => false) && isMk o.op
def nodupB : List Nat → Bool
  | [] => true
  | x :: l => !memB x l && nodupB l
def opB (I : Info) (r : Nat → Nat → Bool) (all : List Oper) (ks : List K) (i : Nat) (o : Oper) (k : K) : Bool :=
  ((List.range all.length).all fun e => match all[e]? with
    | some o' => match o'.dst with
      | some t => r i e || (!gLookB all o t && (!oLookB o t || (isN k && (r e i || Nat.beq e i))))
      | none => true
    | none => true) && kB I r ks o i k
def eachB (I : Info) (r : Nat → Nat → Bool) (all : List Oper) (ks : List K) : Nat → List Oper → List K → Bool
  | i, o :: l, k :: kl => opB I r all ks i o k && eachB I r all ks (i + 1) l kl
  | _, [], [] => true
  | _, _, _ => false
def statT (I : Info) (n : Nat) (all : List Oper) (ks : List K) (tab : List Nat) : Bool :=
  lexicalB all && dstsOk n all && eachB I (rchB tab all.length) all ks 0 all ks && nodupB (floats ks) && nodupB (allJ ks ++ endJ ks)
def statB (I : Info) (n : Nat) (all : List Oper) (ks : List K) : Bool := statT I n all ks (rtab all)
theorem memB_iff {q : Nat} : ∀ {l : List Nat}, memB q l = true ↔ q ∈ l
  | [] => by simp [memB]
  | x :: l => by
    simp only [memB, Bool.or_eq_true, List.mem_cons, memB_iff (l := l)]
    constructor
    · rintro (h | h)
      · exact .inl (beq_eq h)
      · exact .inr h
    · rintro (h | h)
      · exact .inl (by rw [h]; exact beq_self _)
      · exact .inr h
theorem nodupB_ok : ∀ {l : List Nat}, nodupB l = true → l.Nodup
  | [], _ => List.nodup_nil
  | x :: l, h => by
    simp only [nodupB, Bool.and_eq_true, Bool.not_eq_true'] at h
    rw [List.nodup_cons]
    exact ⟨fun hx => (by rw [memB_iff.2 hx] at h; exact Bool.noConfusion h.1), nodupB_ok h.2⟩
theorem floats_mem : ∀ {ks : List K} {i q : Nat}, ks[i]? = some (.f q) → q ∈ floats ks
  | [], i, q, h => by simp at h
  | k :: r, 0, q, h => by simp at h; subst h; exact List.mem_cons_self
  | .f q' :: r, i + 1, q, h => by rw [List.getElem?_cons_succ] at h; exact List.mem_cons_of_mem _ (floats_mem h)
  | .n :: r, i + 1, q, h => by rw [List.getElem?_cons_succ] at h; exact floats_mem (ks := r) h
  | .r _ _ :: r, i + 1, q, h => by rw [List.getElem?_cons_succ] at h; exact floats_mem (ks := r) h
  | .m _ :: r, i + 1, q, h => by rw [List.getElem?_cons_succ] at h; exact floats_mem (ks := r) h
theorem floats_inj : ∀ {ks : List K}, (floats ks).Nodup → ∀ (i i' : Nat) q, ks[i]? = some (.f q) → ks[i']? = some (.f q) → i = i'
  | [], _, i, i', q, h, _ => by simp at h
  | k :: r, hn, 0, 0, q, h, h' => rfl
  | k :: r, hn, 0, i' + 1, q, h, h' => by
    simp at h
    subst h
    rw [List.getElem?_cons_succ] at h'
    simp only [floats, List.nodup_cons] at hn
    exact absurd (floats_mem h') hn.1
  | k :: r, hn, i + 1, 0, q, h, h' => by
    simp at h'
    subst h'
    rw [List.getElem?_cons_succ] at h
    simp only [floats, List.nodup_cons] at hn
    exact absurd (floats_mem h) hn.1
  | k :: r, hn, i + 1, i' + 1, q, h, h' => by
    rw [List.getElem?_cons_succ] at h h'
    have hr : (floats r).Nodup := by
      cases k with
      | f q' => simp only [floats, List.nodup_cons] at hn; exact hn.2
      | n => exact hn
      | r _ _ => exact hn
      | m _ => exact hn
    rw [floats_inj hr i i' q h h']
theorem eachB_ok {r : Nat → Nat → Bool} : ∀ {l : List Oper} {kl : List K} {i : Nat}, eachB I r all ks i l kl = true → kl.length = l.length ∧ ∀ (j : Nat) o k, l[j]? = some o → kl[j]? = some k → opB I r all ks (i + j) o k = true
  | [], [], _, _ => ⟨rfl, fun j o k h => by simp at h⟩
  | [], _ :: _, _, h => by simp [eachB] at h
  | _ :: _, [], _, h => by simp [eachB] at h
  | o :: l, k :: kl, i, h => by
    simp only [eachB, Bool.and_eq_true] at h
    obtain ⟨h1, h2⟩ := eachB_ok h.2
    refine ⟨by rw [List.length_cons, List.length_cons, h1], fun j o' k' ho hk => ?_⟩
    cases j with
    | zero =>
      simp at ho hk
      subst ho hk
      exact h.1
    | succ j =>
      rw [List.getElem?_cons_succ] at ho hk
      have := h2 j o' k' ho hk
      rw [show i + (j + 1) = i + 1 + j by omega]
      exact this
theorem mainAt_ok {p : Nat → Nat → Bool} (h : mainAt ks p = true) : ∃ (e : Nat) (js : List Nat), ks[e]? = some (.m js) ∧ p e (cntM (ks.take e)) = true := by
  unfold mainAt at h
  rw [List.any_eq_true] at h
  obtain ⟨e, _, h⟩ := h
  split at h
  · rename_i js hk; exact ⟨e, js, hk, h⟩
  · cases h
theorem oLookB_ok {o : Oper} {t : Nat} (h : OLook o t) : oLookB o t = true := List.any_eq_true.2 ⟨_, h, beq_self _⟩
theorem gLookB_ok {o : Oper} {t : Nat} (h : GLook all o t) : gLookB all o t = true := by
  obtain ⟨j, b, oj, hg, hj, hd⟩ := h
  unfold gLookB
  rw [hg]
  simp only [gdst, hj, hd, optEq]
  exact beq_self _
theorem stat_ok (h : statB I n all ks = true) : Stat I n all ks := by
  simp only [statB, statT, Bool.and_eq_true] at h
  obtain ⟨⟨⟨⟨h1, h2⟩, h3⟩, h4⟩, h5⟩ := h
  obtain ⟨hlen, hop⟩ := eachB_ok h3
  have hr : ∀ (i : Nat) (j : Nat), i < all.length → rchB (rtab all) all.length i j = true → Rch all i j := fun i j hi hb => by
    unfold Rch
    rw [rchB_eq h1 hi]; exact hb
  have hkl : ∀ (i : Nat) k, ks[i]? = some k → ∃ o, all[i]? = some o ∧ i < all.length := fun i k hk => by
    have := (List.getElem?_eq_some_iff.1 hk).1
    exact ⟨all[i]'(by omega), List.getElem?_eq_getElem (by omega), by omega⟩
  have hki : ∀ (i : Nat) o, all[i]? = some o → ∃ k, ks[i]? = some k := fun i o ho => by
    have := (List.getElem?_eq_some_iff.1 ho).1
    exact ⟨ks[i]'(by omega), List.getElem?_eq_getElem (by omega)⟩
  have hop' : ∀ (i : Nat) o k, all[i]? = some o → ks[i]? = some k → opB I (rchB (rtab all) all.length) all ks i o k = true := fun i o k ho hk => by
    have := hop i o k ho hk
    rwa [Nat.zero_add] at this
  have hlk : ∀ (i : Nat) o kk, all[i]? = some o → ks[i]? = some kk → ∀ t (k : Nat) o', all[k]? = some o' → o'.dst = some t → rchB (rtab all) all.length i k = true ∨ (¬ GLook all o t ∧ (¬ OLook o t ∨ (kk = .n ∧ (rchB (rtab all) all.length k i = true ∨ k = i)))) := fun i o kk ho hkk t k o' hk hd => by
    have := hop' i o kk ho hkk
    simp only [opB, Bool.and_eq_true] at this
    have h6 := List.all_eq_true.1 this.1 k (List.mem_range.2 (List.getElem?_eq_some_iff.1 hk).1)
    rw [hk] at h6
    simp only [hd, Bool.or_eq_true, Bool.and_eq_true, Bool.not_eq_true'] at h6
    rcases h6 with h6 | ⟨h6, h7⟩
    · exact .inl h6
    · refine .inr ⟨fun hg => ?_, ?_⟩
      · rw [gLookB_ok hg] at h6; cases h6
      · rcases h7 with h7 | ⟨h7, h8⟩
        · exact .inl fun ho2 => by rw [oLookB_ok ho2] at h7; cases h7
        · refine .inr ⟨?_, ?_⟩
          · cases kk with
            | n => rfl
            | _ => simp [isN] at h7
          · rcases h8 with h8 | h8
            · exact .inl h8
            · exact .inr (beq_eq h8)
  refine ⟨h1, h2, fun i o ho t hl k o' hk hd => ?_, fun i o ho t hl k o' hk hd => ?_, fun i o ho hk => ?_, fun i o lo hi ho hk => ?_, fun i js hk => ⟨fun e js' he hke => ?_, fun q hq => ?_⟩, fun i o q ho hk => ?_, floats_inj (nodupB_ok h4), nodupB_ok h5⟩
  · obtain ⟨kk, hkk⟩ := hki i o ho
    rcases hlk i o kk ho hkk t k o' hk hd with h6 | ⟨h6, h7⟩
    · exact hr i k (List.getElem?_eq_some_iff.1 ho).1 h6
    · exfalso
      rcases hl with hl | ⟨hl, hne⟩
      · exact h6 hl
      · rcases h7 with h7 | ⟨h7, _⟩
        · exact h7 hl
        · exact hne (by rw [hkk, h7])
  · obtain ⟨kk, hkk⟩ := hki i o ho
    rcases hlk i o kk ho hkk t k o' hk hd with h6 | ⟨_, h7⟩
    · exact .inl (hr i k (List.getElem?_eq_some_iff.1 ho).1 h6)
    · rcases h7 with h7 | ⟨_, h7 | h7⟩
      · exact absurd hl h7
      · exact .inr (.inl (hr k i (List.getElem?_eq_some_iff.1 hk).1 h7))
      · exact .inr (.inr h7)
  · have := hop' i o .n ho hk
    simp only [opB, Bool.and_eq_true] at this
    exact this.2
  · have := hop' i o _ ho hk
    have hil := (List.getElem?_eq_some_iff.1 ho).1
    simp only [opB, kB, Bool.and_eq_true, Bool.or_eq_true] at this
    obtain ⟨_, ⟨g1, g2⟩, g3⟩ := this
    refine ⟨g1, ?_, ?_⟩
    · rcases g2 with g2 | g2
      · exact .inl (beq_eq g2)
      · obtain ⟨e, js, k1, k2⟩ := mainAt_ok g2
        rw [Bool.and_eq_true] at k2
        exact .inr ⟨e, js, k1, beq_eq k2.1, hr i e hil k2.2⟩
    · rcases g3 with g3 | g3
      · exact .inl (beq_eq g3)
      · obtain ⟨e, js, k1, k2⟩ := mainAt_ok g3
        rw [Bool.and_eq_true] at k2
        obtain ⟨_, _, hel⟩ := hkl e _ k1
        exact .inr ⟨e, js, k1, beq_eq k2.1, hr e i hel k2.2⟩
  · obtain ⟨o, ho, hil⟩ := hkl i _ hk
    have := hop' i o _ ho hk
    simp only [opB, kB, Bool.and_eq_true] at this
    have h6 := List.all_eq_true.1 this.2.1 e (List.mem_range.2 he)
    rw [hke] at h6
    exact hr i e hil h6
  · obtain ⟨o, ho, hil⟩ := hkl i _ hk
    have := hop' i o _ ho hk
    simp only [opB, kB, Bool.and_eq_true] at this
    have h6 := List.all_eq_true.1 this.2.2 q hq
    rw [List.any_eq_true] at h6
    obtain ⟨e, _, h6⟩ := h6
    split at h6
    · rename_i q' hke
      rw [Bool.and_eq_true] at h6
      have := beq_eq h6.1
      subst this
      exact ⟨e, hke, hr i e hil h6.2⟩
    · cases h6
  · have := hop' i o _ ho hk
    simp only [opB, kB, Bool.and_eq_true] at this
    obtain ⟨_, ⟨g1, g2⟩, g3⟩ := this
    refine ⟨blt_lt g1, ?_, g3⟩
    split at g2
    · assumption
    · cases g2
end Go.Ev
namespace Go.Ev
open Go Go.Sym Go.RowKit
set_option linter.unusedSectionVars false
variable [Vl]
variable {P : Program} {I : Info} {n : Nat} {call : FuncId → List V → Hp → Option (V × Hp)} {s s' : Fr} {h h' : Hp} {w : World} {bs : Nm} {a : Act}
def codeB (I : Info) (n : Nat) (pl : Nat → List K) : Code → Bool
  | .region id os d => bif d then statB I n os.toList (pl id) else true
  | .seq a b => codeB I n pl a && codeB I n pl b
  | .cond _ a b => codeB I n pl a && codeB I n pl b
  | .block _ a => codeB I n pl a
  | .loop a => codeB I n pl a
  | .scope a => codeB I n pl a
  | _ => true
def exOf : Ex → Exit
  | .norm => .normal
  | .ret => .ret
  | .exit i => .exit i
def Goes (n : Nat) (bs : Nm) (w : World) (h : Hp) (e : Ex) (s' : Fr) (h' : Hp) (ex : Exit) (a' : Act) (w' : World) : Prop :=
  ex = exOf e ∧ ∃ bs', SR bs' s' a' n ∧ HR w' bs' h' ∧ Mv w w' bs bs' h h'
def BodyOk (P : Program) (n : Nat) (f : Fr → Hp → Option (Ex × Fr × Hp)) (c : Code) : Prop :=
  ∀ s h e s' h', f s h = some (e, s', h') → ∀ bs a w, SR bs s a n → HR w bs h → c.wp P (Goes n bs w h e s' h') a w
theorem loopN_ok {f : Fr → Hp → Option (Ex × Fr × Hp)} {c : Code} (hb : BodyOk P n f c) : ∀ (m : Nat) (s : Fr) (h : Hp) e s' h', loopN f m s h = some (e, s', h') → ∀ bs a w, SR bs s a n → HR w bs h → Code.rounds P c (Goes n bs w h e s' h') m a w
  | 0, s, h, e, s', h', he, bs, a, w, hS, hR => by simp [loopN] at he
  | m + 1, s, h, e, s', h', he, bs, a, w, hS, hR => by
    rw [rounds_succ]
    simp only [loopN] at he
    split at he
    · rename_i s1 h1 h2
      refine wp_mono (hb _ _ _ _ _ h2 bs a w hS hR) ?_
      rintro ex a1 w1 ⟨rfl, bs1, hS1, hR1, hM1⟩
      have h3 := loopN_ok hb m s1 h1 e s' h' he bs1 a1 w1 hS1 hR1
      refine k_then ?_
      have key : ∀ (m : Nat) a w2, Code.rounds P c (Goes n bs1 w1 h1 e s' h') m a w2 → Code.rounds P c (Goes n bs w h e s' h') m a w2 := by
        intro m
        induction m with
        | zero => intro a w2 h; exact h.elim
        | succ m ih =>
          intro a w2 h
          refine wp_mono h ?_
          intro ex a3 w3 hq
          cases ex with
          | normal => exact ih _ _ hq
          | _ =>
            obtain ⟨e1, bs', h1', h2', h3'⟩ := hq
            exact ⟨e1, bs', h1', h2', hM1.trans h3'⟩
      exact key m a1 w1 h3
    · rename_i hno
      refine wp_mono (hb _ _ _ _ _ he bs a w hS hR) ?_
      rintro ex a1 w1 ⟨rfl, hrest⟩
      cases e with
      | norm => exact absurd he (hno s' h')
      | ret => exact ⟨rfl, hrest⟩
      | exit i => exact ⟨rfl, hrest⟩
theorem code_ok (hI : IOk P I) (hC : CallOk P call) (hm : P.follows .mixedOrders = true) {pl : Nat → List K} : ∀ (c : Code), codeB I n pl c = true → BodyOk P n (code I call n pl c) c
  | .skip, _ => by
    intro s h e s' h' he bs a w hS hR
    simp only [code, Option.some.injEq, Prod.mk.injEq] at he
    obtain ⟨rfl, rfl, rfl⟩ := he
    exact c_skip ⟨rfl, bs, hS, hR, Mv.refl _ _ _⟩
  | .label l, _ => by
    intro s h e s' h' he bs a w hS hR
    simp only [code, Option.some.injEq, Prod.mk.injEq] at he
    obtain ⟨rfl, rfl, rfl⟩ := he
    exact c_label ⟨rfl, bs, hS, hR, Mv.refl _ _ _⟩
  | .region id ⟨os⟩ d, hc => by
    intro s h e s' h' he bs a w hS hR
    simp only [code] at he
    split at he
    case h_2 => cases he
    rename_i s1 h1 he1
    simp only [Option.some.injEq, Prod.mk.injEq] at he
    obtain ⟨rfl, rfl, rfl⟩ := he
    cases d with
    | true => exact regD_ok hI hC hm (stat_ok hc) he1 hS hR fun a' w' bs' h1 h2 h3 => ⟨rfl, bs', h1, h2, h3⟩
    | false => exact c_region (ops_ok hI hC os s h bs a w he1 hS hR fun a' w' bs' h1 h2 h3 => ⟨rfl, bs', h1, h2, h3⟩)
  | .seq x y, hc => by
    simp only [codeB, Bool.and_eq_true] at hc
    intro s h e s' h' he bs a w hS hR
    simp only [code] at he
    refine c_seq ?_
    split at he
    · rename_i s1 h1 he1
      refine wp_mono (code_ok hI hC hm x hc.1 _ _ _ _ _ he1 bs a w hS hR) ?_
      rintro ex a1 w1 ⟨rfl, bs1, hS1, hR1, hM1⟩
      refine k_then (wp_mono (code_ok hI hC hm y hc.2 _ _ _ _ _ he bs1 a1 w1 hS1 hR1) ?_)
      rintro ex a2 w2 ⟨rfl, bs2, hS2, hR2, hM2⟩
      exact ⟨rfl, bs2, hS2, hR2, hM1.trans hM2⟩
    · rename_i hno
      refine wp_mono (code_ok hI hC hm x hc.1 _ _ _ _ _ he bs a w hS hR) ?_
      rintro ex a1 w1 ⟨rfl, hrest⟩
      cases e with
      | norm => exact absurd he (hno s' h')
      | ret => exact ⟨rfl, hrest⟩
      | exit i => exact ⟨rfl, hrest⟩
  | .cond c x y, hc => by
    simp only [codeB, Bool.and_eq_true] at hc
    intro s h e s' h' he bs a w hS hR
    simp only [code] at he
    split at he
    · rename_i hv
      have h1 : a.eval c = .bool true := hS.env _ _ hv
      exact wp_cond_true h1 (code_ok hI hC hm x hc.1 _ _ _ _ _ he bs a w hS hR)
    · rename_i hv
      have h1 : a.eval c = .bool false := hS.env _ _ hv
      exact wp_cond_false h1 (code_ok hI hC hm y hc.2 _ _ _ _ _ he bs a w hS hR)
    · cases he
  | .block i x, hc => by
    intro s h e s' h' he bs a w hS hR
    simp only [code] at he
    refine c_block ?_
    split at he
    · rename_i j s1 h1 he1
      refine wp_mono (code_ok hI hC hm x hc _ _ _ _ _ he1 bs a w hS hR) ?_
      rintro ex a1 w1 ⟨rfl, hrest⟩
      cases hb : Nat.beq i j with
      | true =>
        rw [hb] at he
        simp only [cond_true, Option.some.injEq, Prod.mk.injEq] at he
        obtain ⟨rfl, rfl, rfl⟩ := he
        have := beq_eq hb
        subst this
        exact k_inx ⟨rfl, hrest⟩
      | false =>
        rw [hb] at he
        simp only [cond_false, Option.some.injEq, Prod.mk.injEq] at he
        obtain ⟨rfl, rfl, rfl⟩ := he
        have hne : (j == i) = false := by
          cases hji : j == i with
          | false => rfl
          | true =>
            have := eq_of_beq hji
            subst this
            rw [beq_self] at hb; cases hb
        exact k_iny hne ⟨rfl, hrest⟩
    · rename_i hno
      refine wp_mono (code_ok hI hC hm x hc _ _ _ _ _ he bs a w hS hR) ?_
      rintro ex a1 w1 ⟨rfl, hrest⟩
      cases e with
      | norm => exact k_in ⟨rfl, hrest⟩
      | ret => exact k_inr ⟨rfl, hrest⟩
      | exit i => exact absurd he (hno _ _ _)
  | .loop x, hc => by
    intro s h e s' h' he bs a w hS hR
    simp only [code] at he
    exact wp_loop_rounds _ (loopN_ok (code_ok hI hC hm x hc) _ _ _ _ _ _ he bs a w hS hR)
  | .scope x, hc => by
    intro s h e s' h' he bs a w hS hR
    simp only [code] at he
    refine c_scope (wp_mono (code_ok hI hC hm x hc _ _ _ _ _ he bs a w hS hR) ?_)
    rintro ex a1 w1 ⟨rfl, hrest⟩
    cases e with
    | norm => exact k_sc ⟨rfl, hrest⟩
    | ret => exact k_scr ⟨rfl, hrest⟩
    | exit i => exact k_scx ⟨rfl, hrest⟩
  | .exit i, _ => by
    intro s h e s' h' he bs a w hS hR
    simp only [code, Option.some.injEq, Prod.mk.injEq] at he
    obtain ⟨rfl, rfl, rfl⟩ := he
    exact c_exit ⟨rfl, bs, hS, hR, Mv.refl _ _ _⟩
  | .ret, _ => by
    intro s h e s' h' he bs a w hS hR
    simp only [code, Option.some.injEq, Prod.mk.injEq] at he
    obtain ⟨rfl, rfl, rfl⟩ := he
    exact c_ret ⟨rfl, bs, hS, hR, Mv.refl _ _ _⟩
  | .goto l, _ => by intro s h e s' h' he; simp [code] at he
  | .rangeFunc _ _ _ _, _ => by intro s h e s' h' he; simp [code] at he
  | .refuse _, _ => by intro s h e s' h' he; simp [code] at he
end Go.Ev
namespace Go.Ev
open Go Go.Sym Go.RowKit
set_option linter.unusedSectionVars false
variable [Vl]
variable {P : Program} {I : Info} {n : Nat} {call : FuncId → List V → Hp → Option (V × Hp)} {s s' : Fr} {h h' : Hp} {w : World} {bs : Nm} {a : Act}
structure FnOk (P : Program) (I : Info) : Prop where
  mixed : P.follows .mixedOrders = true
  fn : ∀ f fn, I.fn f = some fn → P.funcs[f]? = some fn ∧ callable P f = true
  body : ∀ f fn b, I.fn f = some fn → fn.body = some b → codeB I fn.ntmps (I.pl f) b = true
def PartR (P : Program) (bs : Nm) (w : World) (a : Act) (r : ResultVar) (p : P1) : Prop :=
  ∃ u, PR bs p u ∧ ((∃ t, r = .tmp t ∧ a.tmps.getD t undef = u) ∨ ∃ q ty ad, r = .cell q ty ∧ a.tmps.getD q undef = .pointer (some ad) ∧ (loadVar ty ad).run P w = .ok u w)
theorem SR.tmp (hS : SR bs s a n) {t : Nat} {v : V} (hv : opd s (.tmp t) = some v) : VR bs v (a.tmps.getD t undef) := by
  have := hS.env _ _ hv
  simpa [Act.eval] using this
theorem resOf_ok (hI : IOk P I) (hS : SR bs s a n) (hR : HR w bs h) {r : ResultVar} {p : P1} (he : resOf I s h r = some p) : PartR P bs w a r p := by
  cases r with
  | tmp t =>
    simp only [resOf] at he
    split at he
    · rename_i c hv; cases he; exact ⟨_, hS.tmp hv, .inl ⟨t, rfl, rfl⟩⟩
    · rename_i l hv; cases he; exact ⟨_, hS.tmp hv, .inl ⟨t, rfl, rfl⟩⟩
    · cases he
  | cell q ty =>
    simp only [resOf] at he
    split at he
    case h_2 => cases he
    rename_i id off hv
    obtain ⟨k, hk, hu⟩ := hS.tmp hv
    split at he
    · rename_i c hl; cases he
      obtain ⟨u, h1, h2⟩ := load_ok hI hR hk hl
      exact ⟨u, h2, .inr ⟨q, ty, _, rfl, hu, h1⟩⟩
    · rename_i l hl; cases he
      obtain ⟨u, h1, h2⟩ := load_ok hI hR hk hl
      exact ⟨u, h2, .inr ⟨q, ty, _, rfl, hu, h1⟩⟩
    · cases he
def resF (tmps : Array Value) : ResultVar → Sem Value
  | .tmp t => pure (tmps.getD t undef)
  | .cell a t => do loadVar t (← asAddr (tmps.getD a undef))
theorem resL_ok (hI : IOk P I) (hS : SR bs s a n) (hR : HR w bs h) : ∀ {l : List ResultVar} {ps : List P1}, resL I s h l = some ps → ∃ us, PsR bs ps us ∧ (l.mapM (resF a.tmps)).run P w = .ok us w
  | [], ps, he => by
    simp only [resL, Option.some.injEq] at he
    subst he
    exact ⟨[], trivial, by simp⟩
  | r :: l, ps, he => by
    simp only [resL] at he
    split at he
    case h_2 => cases he
    rename_i p q hp hq
    cases he
    obtain ⟨u, h1, h2⟩ := resOf_ok hI hS hR hp
    obtain ⟨us, h3, h4⟩ := resL_ok hI hS hR hq
    refine ⟨u :: us, ⟨h1, h3⟩, ?_⟩
    rw [List.mapM_cons]
    rcases h2 with ⟨t, rfl, ht⟩ | ⟨q', ty, ad, rfl, hq', hl⟩
    · simp [resF, ht, h4]
    · simp [resF, hq', asAddr, hl, h4]
theorem PsR.len : ∀ {l : List P1} {vs : List Value}, PsR bs l vs → vs.length = l.length
  | [], [], _ => rfl
  | _ :: l, _ :: vs, ⟨_, h2⟩ => by rw [List.length_cons, List.length_cons, h2.len]
  | [], _ :: _, h => h.elim
  | _ :: _, [], h => h.elim
theorem results_ok (hI : IOk P I) (hS : SR bs s a n) (hR : HR w bs h) {fn : Func} {v : V} (he : results I s h fn.results.toList = some v) : ∃ u, (Go.results fn a.tmps).run P w = .ok u w ∧ VR bs v u := by
  unfold results at he
  have key : ∀ ps, resL I s h fn.results.toList = some ps → ∃ us, PsR bs ps us ∧ (Go.results fn a.tmps).run P w = .ok (if h : us.toArray.size = 1 then us.toArray[0] else .tuple us.toArray) w := by
    intro ps hps
    obtain ⟨us, h1, h2⟩ := resL_ok hI hS hR hps
    refine ⟨us, h1, ?_⟩
    unfold Go.results
    have : fn.results.mapM (resF a.tmps) = Functor.map List.toArray (fn.results.toList.mapM (resF a.tmps)) := by
      rw [Array.mapM_eq_mapM_toList]
    have h3 : (fn.results.mapM (resF a.tmps)).run P w = .ok us.toArray w := by
      rw [this]
      simp [h2]
    show ((fn.results.mapM (resF a.tmps)) >>= fun vs => pure (if h : vs.size = 1 then vs[0] else .tuple vs)).run P w = _
    simp [h3]
  split at he
  · rename_i c hps
    cases he
    obtain ⟨us, h1, h2⟩ := key _ hps
    match us, h1 with
    | [u], ⟨h3, _⟩ => exact ⟨u, by simpa using h2, h3⟩
  · rename_i l hps
    cases he
    obtain ⟨us, h1, h2⟩ := key _ hps
    match us, h1 with
    | [u], ⟨h3, _⟩ => exact ⟨u, by simpa using h2, h3⟩
  · rename_i l h1 h2 hps
    cases he
    obtain ⟨us, h3, h4⟩ := key _ hps
    have hl := h3.len
    have hne : ¬ (us.toArray.size = 1) := by
      intro e
      have e' : us.length = 1 := by simpa using e
      rw [hl] at e'
      match l, e' with
      | [.c c], _ => exact h1 c rfl
      | [.agg c], _ => exact h2 c rfl
    rw [dif_neg hne] at h4
    exact ⟨_, h4, us, h3, rfl⟩
  · cases he
theorem frame0_get : ∀ (as : List V) (i : Nat), i + as.length ≤ 512 → ∀ d v, d < 512 → (frame0 i as).get d = some v → i ≤ d ∧ as[d - i]? = some v
  | [], i, _, d, v, _, h => by rw [frame0, T.get_lf] at h; cases h
  | x :: r, i, hl, d, v, hd, h => by
    rw [List.length_cons] at hl
    rw [frame0, show DF = 9 from rfl, T.get_set 9 _ _ _ _ (show i < 512 by omega) hd] at h
    by_cases e : d = i
    · rw [if_pos e] at h
      cases h
      subst e
      exact ⟨Nat.le_refl _, by rw [Nat.sub_self]; rfl⟩
    · rw [if_neg e] at h
      obtain ⟨h1, h2⟩ := frame0_get r (i + 1) (by omega) d v hd h
      exact ⟨by omega, by rw [show d - i = (d - (i + 1)) + 1 by omega, List.getElem?_cons_succ]; exact h2⟩
theorem VsR.get : ∀ {l : List V} {vs : List Value}, VsR bs l vs → ∀ (i : Nat) v, l[i]? = some v → ∃ u, vs[i]? = some u ∧ VR bs v u
  | _ :: _, u :: _, ⟨h1, _⟩, 0, v, hv => by simp at hv; subst hv; exact ⟨u, rfl, h1⟩
  | _ :: l, _ :: vs, ⟨_, h2⟩, i + 1, v, hv => by
    rw [List.getElem?_cons_succ] at hv
    obtain ⟨u, h3, h4⟩ := h2.get i v hv
    exact ⟨u, by rw [List.getElem?_cons_succ]; exact h3, h4⟩
  | [], [], _, i, v, hv => by simp at hv
  | [], _ :: _, h, _, _, _ => h.elim
  | _ :: _, [], h, _, _, _ => h.elim
theorem frame0_ok {as : List V} {vs : List Value} (ha : VsR bs as vs) {m : Nat} (hm : m ≤ 512) (hl : as.length ≤ m) : SR bs (frame0 0 as) { tmps := vs.toArray ++ Array.replicate (m - vs.toArray.size) undef, defers := [] } m := by
  have hvl := ha.len
  refine ⟨rfl, by simp; omega, hm, fun d v hd hv => ?_⟩
  obtain ⟨_, h2⟩ := frame0_get as 0 (by omega) d v hd hv
  rw [Nat.sub_zero] at h2
  obtain ⟨u, h3, h4⟩ := ha.get d v h2
  refine ⟨u, ?_, h4⟩
  have hlt : d < vs.toArray.size := by simpa using (List.getElem?_eq_some_iff.1 h3).1
  simp only [Array.getElem?_append, hlt, if_true]
  simpa using h3
def OrcOk (P : Program) (orc : FuncId → Option (List V → Hp → Option (V × Hp))) : Prop := ∀ f g, orc f = some g → CallOk P fun f' as h => if f' = f then g as h else none
theorem callF_ok (hI : IOk P I) (hF : FnOk P I) {orc : FuncId → Option (List V → Hp → Option (V × Hp))} (hO : OrcOk P orc) : ∀ m, CallOk P (callF I orc m)
  | 0 => by intro f as h v h' he; simp [callF] at he
  | m + 1 => by
    intro f as h v h' he bs vs w ha hR
    simp only [callF] at he
    split at he
    · rename_i g hg
      exact hO f g hg f as h v h' (by simpa using he) bs vs w ha hR
    · rename_i hg
      split at he
      case h_2 => cases he
      rename_i fn hfn
      obtain ⟨hfp, hcall⟩ := hF.fn f fn hfn
      split at he
      case h_2 => cases he
      rename_i b hb
      obtain ⟨hb1, hb⟩ := bcondO hb
      rw [Bool.and_eq_true] at hb1
      have hcB := hF.body f fn b hfn hb
      have hS := frame0_ok ha (ble_le hb1.1) (ble_le hb1.2)
      have hfin : ∀ e s' h1, code I (callF I orc m) fn.ntmps (I.pl f) b (frame0 0 as) h = some (e, s', h1) → (results I s' h1 fn.results.toList).map (·, h1) = some (v, h') → (e = .norm ∨ e = .ret) → CallR P f vs.toArray w (After w bs h v h') := by
        intro e s' h1 hc hres hee
        obtain ⟨v', hv, hvv⟩ := Option.map_eq_some_iff.1 hres
        cases hvv
        refine .inr ⟨run_callFunc hcall vs.toArray, ?_⟩
        refine calls_of_wp hfp hb (wp_mono (code_ok hI (callF_ok hI hF hO m) hF.mixed b hcB _ _ _ _ _ hc bs _ w hS hR) ?_)
        rintro ex a1 w1 ⟨rfl, bs1, hS1, hR1, hM1⟩
        obtain ⟨u, hu1, hu2⟩ := results_ok hI hS1 hR1 hv
        rcases hee with rfl | rfl
        · exact ⟨hS1.defers, u, hu1, u, rfl, bs1, hR1, hM1, hu2⟩
        · exact ⟨hS1.defers, u, hu1, u, rfl, bs1, hR1, hM1, hu2⟩
      split at he
      · rename_i s' h1 hc; exact hfin _ _ _ hc he (.inl rfl)
      · rename_i s' h1 hc; exact hfin _ _ _ hc he (.inr rfl)
      · cases he
end Go.Ev
namespace Go.Ev
open Go Go.Sym Go.RowKit
set_option linter.unusedSectionVars false
variable [Vl]
noncomputable section
def AllL {α : Type} (p : α → Prop) : List α → Prop
  | [] => True
  | x :: l => p x ∧ AllL p l
theorem AllL.mem {α : Type} {p : α → Prop} : ∀ {l : List α}, AllL p l → ∀ x ∈ l, p x
  | x :: l, ⟨h1, h2⟩, y, hy => by
    rcases List.mem_cons.1 hy with rfl | hy
    · exact h1
    · exact h2.mem y hy
  | [], _, y, hy => by cases hy
def ofL {α : Type} (d : Nat) : List (Nat × α) → T (Option α)
  | [] => .lf none
  | p :: r => (ofL d r).set d p.1 (some p.2)
def inB {α : Type} (n : Nat) (l : List (Nat × α)) : Bool := l.all fun p => Nat.blt p.1 n
theorem ofL_mem {α : Type} {d : Nat} : ∀ {l : List (Nat × α)}, inB (2 ^ d) l = true → ∀ {i : Nat} {a : α}, i < 2 ^ d → (ofL d l).get i = some a → (i, a) ∈ l
  | [], _, i, a, _, h => by rw [ofL, T.get_lf] at h; cases h
  | (j, b) :: r, hb, i, a, hi, h => by
    simp only [inB, List.all_cons, Bool.and_eq_true] at hb
    rw [ofL, T.get_set d _ _ _ _ (blt_lt hb.1) hi] at h
    by_cases e : i = j
    · rw [if_pos e] at h
      cases h
      rw [e]; exact List.mem_cons_self
    · rw [if_neg e] at h
      exact List.mem_cons_of_mem _ (ofL_mem hb.2 hi h)
def at? {α : Type} (n : Nat) (t : T (Option α)) (i : Nat) : Option α := bif Nat.blt i n then t.get i else none
theorem at_mem {α : Type} {d : Nat} {l : List (Nat × α)} (hb : inB (2 ^ d) l = true) {i : Nat} {a : α} (h : at? (2 ^ d) (ofL d l) i = some a) : (i, a) ∈ l := by
  unfold at? at h
  obtain ⟨h1, h2⟩ := bcondO h
  exact ofL_mem hb (blt_lt h1) h2
def lookL {α : Type} (i : Nat) : List (Nat × List α) → List α
  | [] => []
  | (j, a) :: r => bif Nat.beq i j then a else lookL i r
def infOf (td : List (Nat × TypeDesc)) (sz : List (Nat × Nat)) (zc : List (Nat × T C)) (eg : List (Nat × Bool)) (fn : List (Nat × Func)) (pl : List (Nat × List (Nat × List K))) : Info where
  td t := at? 512 (ofL 9 td) t
  sz t := at? 512 (ofL 9 sz) t
  zc t := at? 512 (ofL 9 zc) t
  eg t := match at? 512 (ofL 9 eg) t with
    | some b => b
    | none => false
  fn f := at? 1024 (ofL 10 fn) f
  pl f r := match at? 1024 (ofL 10 pl) f with
    | some l => lookL r l
    | none => []
def cvB : C → Value → Bool
  | .int k n, .int k' m => (if k = k' then true else false) && decide (n = m)
  | .bool a, .bool b => a == b
  | .str [], .string s => Nat.beq s.data.size 0
  | .nilp, .pointer none => true
  | .nils, .slice none 0 0 => true
  | .nilf, .nilFunc => true
  | _, _ => false
def rowB (z : T C) : Nat → List Value → Bool
  | _, [] => true
  | j, v :: r => cvB (z.get j) v && rowB z (j + 1) r
def szB (P : Program) (p : Nat × Nat) : Bool := match P.info? p.1 with
  | some i => Nat.beq i.size p.2 && Nat.ble i.bytes 1048576
  | none => false
def zcB (P : Program) (I : Info) (p : Nat × T C) : Bool := match P.info? p.1 with
  | some i => match i.zero with
    | some zv => rowB p.2 0 zv.cells.toList && (match I.sz p.1 with | some n => Nat.beq zv.cells.toList.length n | none => true)
    | none => false
  | none => false
def egB (P : Program) (p : Nat × Bool) : Bool := !(p.2 && P.eqGuardType P.depth p.1)
def tyB (P : Program) (p : Nat × TypeDesc) : Bool := match p.2 with
  | .struct fs => fs.toList.all fun f => (P.info? f.type).isSome
  | .array _ e => (P.info? e).isSome
  | .int .u8 => match P.info? p.1 with
    | some i => Nat.ble i.bytes 8
    | none => true
  | _ => true
def fnB (P : Program) (I : Info) (p : Nat × Func) : Bool := callable P p.1 && (match p.2.body with
  | some b => codeB I p.2.ntmps (I.pl p.1) b
  | none => true)
theorem cvB_ok {c : C} {v : Value} (h : cvB c v = true) : CR Nm.no c v := by
  unfold cvB at h
  split at h
  · rw [Bool.and_eq_true] at h
    obtain ⟨h1, h2⟩ := h
    split at h1
    · rename_i hk; rw [hk, of_decide_eq_true h2]; rfl
    · cases h1
  · rw [eq_of_beq h]; rfl
  · rename_i s
    have h1 := beq_eq h
    show Value.string s = SV []
    have h2 : s = ⟨#[]⟩ := by
      obtain ⟨⟨l⟩⟩ := s
      cases l with
      | nil => rfl
      | cons x l => simp at h1
    rw [h2]; rfl
  · rfl
  · rfl
  · rfl
  · cases h
theorem rowB_ok {z : T C} : ∀ {l : List Value} {j : Nat}, rowB z j l = true → ∀ i, i < l.length → ∃ u, l[i]? = some u ∧ CR Nm.no (z.get (j + i)) u
  | v :: l, j, h, 0, _ => by
    simp only [rowB, Bool.and_eq_true] at h
    exact ⟨v, rfl, cvB_ok h.1⟩
  | v :: l, j, h, i + 1, hi => by
    simp only [rowB, Bool.and_eq_true] at h
    rw [List.length_cons] at hi
    obtain ⟨u, h1, h2⟩ := rowB_ok h.2 i (by omega)
    refine ⟨u, by rw [List.getElem?_cons_succ]; exact h1, ?_⟩
    rw [show j + (i + 1) = j + 1 + i by omega]; exact h2
  | [], j, _, i, hi => by simp at hi
variable {P : Program} {td : List (Nat × TypeDesc)} {sz : List (Nat × Nat)} {zc : List (Nat × T C)} {eg : List (Nat × Bool)} {fn : List (Nat × Func)} {pl : List (Nat × List (Nat × List K))}
theorem infOf_ok (hb : (inB 512 td && inB 512 sz && inB 512 zc && inB 512 eg) = true) (h1 : AllL (fun p => P.underlying p.1 = some p.2) td) (h2 : sz.all (szB P) = true) (h3 : zc.all (zcB P (infOf td sz zc eg fn pl)) = true) (h4 : eg.all (egB P) = true) (h5 : td.all (tyB P) = true) :
    IOk P (infOf td sz zc eg fn pl) := by
  simp only [Bool.and_eq_true] at hb
  obtain ⟨⟨⟨b1, b2⟩, b3⟩, b4⟩ := hb
  have htd : ∀ t d, (infOf td sz zc eg fn pl).td t = some d → (t, d) ∈ td := fun t d h => at_mem (d := 9) b1 h
  have hsz : ∀ t n, (infOf td sz zc eg fn pl).sz t = some n → ∃ i, P.info? t = some i ∧ i.size = n ∧ i.bytes ≤ 1048576 := fun t n h => by
    have := List.all_eq_true.1 h2 _ (at_mem (d := 9) b2 h)
    unfold szB at this
    split at this
    · rename_i i hi
      rw [Bool.and_eq_true] at this
      exact ⟨i, hi, beq_eq this.1, ble_le this.2⟩
    · cases this
  refine ⟨fun t d h => h1.mem _ (htd t d h), fun t n h => ?_, fun t z n hz hn => ?_, fun t h => ?_, fun t fs h f hf => ?_, fun t m e h => ?_, fun e i h hi => ?_, fun e n i h hi => ?_⟩
  · obtain ⟨i, hi, h6, _⟩ := hsz t n h
    rw [hi, ← h6]; rfl
  · have := List.all_eq_true.1 h3 _ (at_mem (d := 9) b3 hz)
    unfold zcB at this
    split at this
    case h_2 => cases this
    rename_i i hi
    split at this
    case h_2 => cases this
    rename_i zv hzv
    rw [Bool.and_eq_true] at this
    simp only at this
    rw [hn] at this
    have hl := beq_eq this.2
    refine ⟨i, zv, hi, hzv, zv.cells.toList, by simp, hl, fun j hj => ?_⟩
    have := rowB_ok this.1 j (by omega)
    rwa [Nat.zero_add] at this
  · unfold infOf at h
    simp only at h
    split at h
    · rename_i b hb
      subst h
      have := List.all_eq_true.1 h4 _ (at_mem (d := 9) b4 hb)
      simpa [egB] using this
    · cases h
  · have := List.all_eq_true.1 h5 _ (htd t _ h)
    simp only [tyB] at this
    exact List.all_eq_true.1 this f hf
  · have := List.all_eq_true.1 h5 _ (htd t _ h)
    simpa [tyB] using this
  · have := List.all_eq_true.1 h5 _ (htd e _ h)
    simp only [tyB, hi] at this
    exact ble_le this
  · obtain ⟨i', hi', _, h6⟩ := hsz e n h
    rw [hi] at hi'; cases hi'
    exact h6
theorem fnOf_ok (hm : P.follows .mixedOrders = true) (hb : inB 1024 fn = true) (h1 : AllL (fun p => P.funcs[p.1]? = some p.2) fn) (h2 : fn.all (fnB P (infOf td sz zc eg fn pl)) = true) : FnOk P (infOf td sz zc eg fn pl) := by
  have hf : ∀ f g, (infOf td sz zc eg fn pl).fn f = some g → (f, g) ∈ fn := fun f g h => at_mem (d := 10) hb h
  refine ⟨hm, fun f g h => ⟨h1.mem _ (hf f g h), ?_⟩, fun f g b h hbd => ?_⟩
  · have := List.all_eq_true.1 h2 _ (hf f g h)
    simp only [fnB, Bool.and_eq_true] at this
    exact this.1
  · have := List.all_eq_true.1 h2 _ (hf f g h)
    simp only [fnB, Bool.and_eq_true] at this
    have h3 := this.2
    simp only [hbd] at h3
    exact h3
end
end Go.Ev
namespace Go.Sym
open Go Go.RowKit
section
variable {P : Program} {a : Act} {w : World} {n : Nat} {E : Nat → Option Value}
variable {dst : Option Nat} {ty : TypeId} {pos : String} {af : Array Edge} {g : Option (Nat × Bool)}
structure ExtOk (P : Program) (f : FuncId) (fn : Func) (e : Array Value → Sem Value) : Prop where
  hf : P.funcs[f]? = some fn
  hname : (fn.name == "runtime.NumGoroutine") = false
  hb : fn.body.isNone = true
  hn : Extern.findNext fn = none
  he : Extern.find fn = some e
theorem r_ext {f : FuncId} {fn : Func} {e : Array Value → Sem Value} {xs : List Operand} {ats : Array TypeId} {vs : List Value} {v : Value} (hE : ExtOk P f fn e) (hS : Slots a n E) (hx : evs E xs = some vs) (hr : (e vs.toArray).run P w = .ok v w) :
    Run P a ⟨dst, .call ⟨.value (.func f), xs.toArray, ats⟩, ty, pos, af, g⟩ w v := by
  have h := Slots.evals (xs := xs) hS hx
  have h' : Array.map a.eval xs.toArray = vs.toArray := by rw [← h]; simp
  have h2 := run_callFunc_extern hE.hf hE.hname hE.hb hE.hn hE.he vs.toArray w
  rw [hr] at h2
  unfold Run
  rw [execOp_call_go]
  simp only [Array.empty_append, Array.append_empty, h']
  exact h2
def addEntry : Array Value → Sem Value := fun args => do
  let (x, y, c) ← Extern.MathBitsCarry.three "Add64" args
  pure (Extern.MathBitsCarry.pair ((x + y + c) % Extern.MathBitsCarry.m64) ((x + y + c) / Extern.MathBitsCarry.m64))
def subEntry : Array Value → Sem Value := fun args => do
  let (x, y, b) ← Extern.MathBitsCarry.three "Sub64" args
  pure (Extern.MathBitsCarry.pair ((x + Extern.MathBitsCarry.m64 - y - b) % Extern.MathBitsCarry.m64) (if x < y + b then 1 else 0))
def cout (x y c : BitVec 64) : BitVec 64 := BitVec.ofNat 64 ((x.toNat + y.toNat + c.toNat) / 18446744073709551616)
def bout (x y c : BitVec 64) : BitVec 64 := if x.toNat < y.toNat + c.toNat then 1#64 else 0#64
theorem run_add (x y c : BitVec 64) (hc : c.toNat ≤ 1) : (addEntry [U x, U y, U c].toArray).run P w = .ok (.tuple #[U (x + y + c), U (cout x y c)]) w := by
  have key : ∀ k : Nat, k ≤ 1 → (addEntry [U x, U y, .int .u64 (k : Int)].toArray).run P w = .ok (Extern.MathBitsCarry.pair ((x.toNat + y.toNat + k) % Extern.MathBitsCarry.m64) ((x.toNat + y.toNat + k) / Extern.MathBitsCarry.m64)) w := by
    intro k hk
    have : k = 0 ∨ k = 1 := by omega
    rcases this with rfl | rfl <;> rfl
  rw [show U c = .int .u64 ((c.toNat : Nat) : Int) from rfl, key c.toNat hc]
  have h1 : (x + y + c).toNat = (x.toNat + y.toNat + c.toNat) % 18446744073709551616 := by simp only [BitVec.toNat_add]; omega
  have h2 : (cout x y c).toNat = (x.toNat + y.toNat + c.toNat) / 18446744073709551616 := by unfold cout; rw [BitVec.toNat_ofNat]; omega
  simp only [U, h1, h2]
  rfl
theorem run_sub (x y c : BitVec 64) (hc : c.toNat ≤ 1) : (subEntry [U x, U y, U c].toArray).run P w = .ok (.tuple #[U (x - y - c), U (bout x y c)]) w := by
  have key : ∀ k : Nat, k ≤ 1 → (subEntry [U x, U y, .int .u64 (k : Int)].toArray).run P w = .ok (Extern.MathBitsCarry.pair ((x.toNat + Extern.MathBitsCarry.m64 - y.toNat - k) % Extern.MathBitsCarry.m64) (if x.toNat < y.toNat + k then 1 else 0)) w := by
    intro k hk
    have : k = 0 ∨ k = 1 := by omega
    rcases this with rfl | rfl <;> rfl
  rw [show U c = .int .u64 ((c.toNat : Nat) : Int) from rfl, key c.toNat hc]
  have h1 : (x - y - c).toNat = (x.toNat + 18446744073709551616 - y.toNat - c.toNat) % 18446744073709551616 := by simp only [BitVec.toNat_sub]; omega
  have h2 : (bout x y c).toNat = if x.toNat < y.toNat + c.toNat then 1 else 0 := by unfold bout; split <;> rfl
  simp only [U, h1, h2]
  rfl
theorem cout_le (x y c : BitVec 64) (hc : c.toNat ≤ 1) : (cout x y c).toNat ≤ 1 := by unfold cout; rw [BitVec.toNat_ofNat]; omega
def mulHi (x y : BitVec 64) : BitVec 64 :=
  let x0 := x &&& 4294967295#64; let x1 := x >>> 32; let y0 := y &&& 4294967295#64; let y1 := y >>> 32
  let t := x1 * y0 + (x0 * y0) >>> 32
  x1 * y1 + t >>> 32 + ((t &&& 4294967295#64) + x0 * y1) >>> 32
theorem low32 (x : BitVec 64) : (x &&& 4294967295#64).toNat = x.toNat % 4294967296 := by
  rw [BitVec.toNat_and]
  exact Nat.and_two_pow_sub_one_eq_mod _ 32
theorem mulHi_toNat (x y : BitVec 64) : (mulHi x y).toNat = x.toNat * y.toNat / 18446744073709551616 := by
  have h := mul64_arith (x.toNat : Int) (y.toNat : Int) (by omega) (by have := x.isLt; omega) (by omega) (by have := y.isLt; omega)
  unfold mulHi
  simp only [BitVec.toNat_add, BitVec.toNat_mul, BitVec.toNat_ushiftRight, Nat.shiftRight_eq_div_pow, low32]
  have : ((x.toNat * y.toNat / 18446744073709551616 : Nat) : Int) = (x.toNat : Int) * (y.toNat : Int) / 18446744073709551616 := by simp
  generalize x.toNat * y.toNat / 18446744073709551616 = q at this ⊢
  rw [← this] at h
  have h3 : ∀ a b c d : Nat, (a : Int) * (b : Int) = ((a * b : Nat) : Int) := fun a b _ _ => by simp
  refine Int.ofNat.inj ?_
  show ((_ : Nat) : Int) = ((q : Nat) : Int)
  rw [← h]
  simp only [Int.natCast_add, Int.natCast_mul, Int.natCast_emod, Int.natCast_ediv]
  rfl
theorem mul_split (x y : BitVec 64) : (mulHi x y).toNat * 18446744073709551616 + (x * y).toNat = x.toNat * y.toNat := by
  rw [mulHi_toNat, BitVec.toNat_mul]
  have := Nat.div_add_mod (x.toNat * y.toNat) 18446744073709551616
  omega
end
end Go.Sym
