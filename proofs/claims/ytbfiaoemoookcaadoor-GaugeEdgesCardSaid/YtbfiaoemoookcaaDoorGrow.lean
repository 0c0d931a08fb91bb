/-
  Rows of words: those that are numbers, the first and the last of them by order, their sum and mean. No program is in sight here.
-/
import Derived.Test.YtbfiaoemoookcaaDoorGlaw
namespace Go.Sym
open Go Ieee

theorem b_eqlFn (t : TypeId) {x : BitVec 64} {b : Bool} (h : nanB x = b) : binOp .eql t (F x) (F x) = pure (.bool (!b)) := by
  rw [b_eqlF]
  have := fo_self x
  rw [h] at this
  have e : (fo x x == some .eq) = !(fo x x != some .eq) := by cases hq : (fo x x == some .eq) <;> simp [bne, hq]
  rw [e, this]
theorem al.symm {x y : BitVec 64} (h : al x y) : al y x := by
  rcases h with rfl | ⟨h1, h2⟩
  · exact .inl rfl
  · exact .inr ⟨h2, h1⟩
theorem al.nan {x y : BitVec 64} (h : al x y) : nanB x = nanB y := by
  rcases h with rfl | ⟨h1, h2⟩
  · rfl
  · rw [h1, h2]
theorem alR {x y z : BitVec 64} (h : al x y) : ord z x = ord z y := by unfold ord; rw [h.nk]
/-- The numbers among the first k. -/
def numL (f : Nat → BitVec 64) : Nat → List (BitVec 64)
  | 0 => []
  | k + 1 => if nanB (f k) then numL f k else numL f k ++ [f k]
def at0 (l : List (BitVec 64)) (i : Nat) : BitVec 64 := l.getD i 0
theorem numL_no {f : Nat → BitVec 64} {k : Nat} (h : nanB (f k) = true) : numL f (k + 1) = numL f k := by rw [numL, if_pos h]
theorem numL_yes {f : Nat → BitVec 64} {k : Nat} (h : nanB (f k) = false) : numL f (k + 1) = numL f k ++ [f k] := by rw [numL, if_neg (by rw [h]; decide)]
theorem numL_len (f : Nat → BitVec 64) : ∀ k, (numL f k).length ≤ k
  | 0 => Nat.le_refl _
  | k + 1 => by
    have := numL_len f k
    cases h : nanB (f k) with
    | true => rw [numL_no h]; omega
    | false => rw [numL_yes h, List.length_append]; show _ + 1 ≤ _; omega
theorem numL_num (f : Nat → BitVec 64) : ∀ k, ∀ x ∈ numL f k, nanB x = false
  | 0, x, h => by cases h
  | k + 1, x, h => by
    cases hn : nanB (f k) with
    | true => rw [numL_no hn] at h; exact numL_num f k x h
    | false =>
      rw [numL_yes hn] at h
      rcases List.mem_append.1 h with q | q
      · exact numL_num f k x q
      · rw [List.mem_singleton] at q; rw [q]; exact hn
theorem at0_num {f : Nat → BitVec 64} {k i : Nat} (h : i < (numL f k).length) : nanB (at0 (numL f k) i) = false := by
  refine numL_num f k _ ?_
  unfold at0
  rw [List.getD_eq_getElem?_getD, List.getElem?_eq_getElem h]
  exact List.getElem_mem h
theorem at0_left {l r : List (BitVec 64)} {i : Nat} (h : i < l.length) : at0 (l ++ r) i = at0 l i := by
  unfold at0; rw [List.getD_eq_getElem?_getD, List.getD_eq_getElem?_getD, List.getElem?_append_left h]
theorem at0_last {l : List (BitVec 64)} {x : BitVec 64} : at0 (l ++ [x]) l.length = x := by
  unfold at0; rw [List.getD_eq_getElem?_getD, List.getElem?_append_right (Nat.le_refl _), Nat.sub_self]; rfl
/-- The numbers as cells. -/
def nums (f : Nat → BitVec 64) (k : Nat) : List Value := cells (numL f k).length (fun i => F (at0 (numL f k) i))
theorem nums_len (f : Nat → BitVec 64) (k : Nat) : (nums f k).length = (numL f k).length := cells_len
theorem nums_no {f : Nat → BitVec 64} {k : Nat} (h : nanB (f k) = true) : nums f k = nums f (k + 1) := by unfold nums; rw [numL_no h]
theorem nums_yes {f : Nat → BitVec 64} {k : Nat} (h : nanB (f k) = false) : nums f k ++ cells 1 (fun _ => F (f k)) = nums f (k + 1) := by
  unfold nums
  rw [numL_yes h]
  have e : (numL f k ++ [f k]).length = (numL f k).length + 1 := by rw [List.length_append]; rfl
  rw [e]
  refine Eq.trans ?_ cells_snoc
  show _ = _ ++ [F (at0 (numL f k ++ [f k]) (numL f k).length)]
  rw [at0_last]
  refine congrArg (· ++ [F (f k)]) ?_
  exact cells_congr fun i hi => by rw [at0_left hi]
def nan0 : BitVec 64 := 9221120237041090561#64
theorem nan0_nan : nanB nan0 = true := by decide +kernel
/-- The first of the numbers among the first k, by order or against it. -/
def bs (f : Nat → BitVec 64) (way : Int) : Nat → BitVec 64
  | 0 => nan0
  | k + 1 => if nanB (f k) then bs f way k else if nanB (bs f way k) = true ∨ ord (f k) (bs f way k) = way then f k else bs f way k
theorem bs_zero (f : Nat → BitVec 64) (way : Int) : bs f way 0 = nan0 := rfl
theorem bs_znan (f : Nat → BitVec 64) (way : Int) : nanB (bs f way 0) = true := nan0_nan
theorem nums_zero (f : Nat → BitVec 64) : nums f 0 = [] := rfl
theorem bs_no {f : Nat → BitVec 64} {way : Int} {k : Nat} (h : nanB (f k) = true) : bs f way k = bs f way (k + 1) := by rw [bs, if_pos h]
theorem bs_take {f : Nat → BitVec 64} {way : Int} {k : Nat} (h : nanB (f k) = false) (h' : nanB (bs f way k) = true ∨ ord (f k) (bs f way k) = way) : f k = bs f way (k + 1) := by rw [bs, if_neg (by rw [h]; decide), if_pos h']
theorem bs_keep {f : Nat → BitVec 64} {way : Int} {k : Nat} (h : nanB (f k) = false) (h' : nanB (bs f way k) = false) (ho : ¬ ord (f k) (bs f way k) = way) : bs f way k = bs f way (k + 1) := by
  rw [bs, if_neg (by rw [h]; decide), if_neg (by rintro (q | q); rw [h'] at q; cases q; exact ho q)]
theorem bs_num {f : Nat → BitVec 64} {way : Int} : ∀ {k : Nat}, (∀ i, i < k → nanB (f i) = false) → 0 < k → nanB (bs f way k) = false
  | 0, _, h => by omega
  | k + 1, h, _ => by
    have hk := h k (by omega)
    by_cases q : nanB (bs f way k) = true ∨ ord (f k) (bs f way k) = way
    · rw [← bs_take hk q]; exact hk
    · have q1 : nanB (bs f way k) = false := by cases e : nanB (bs f way k) with
        | true => exact absurd (.inl e) q
        | false => rfl
      rw [← bs_keep hk q1 (fun e => q (.inr e))]; exact q1
theorem bs_congr {f g : Nat → BitVec 64} {way : Int} : ∀ {k : Nat}, (∀ i, i < k → f i = g i) → bs f way k = bs g way k
  | 0, _ => rfl
  | k + 1, h => by rw [bs, bs, h k (by omega), bs_congr (k := k) (fun i hi => h i (by omega))]
theorem bs_numL (f : Nat → BitVec 64) (way : Int) : ∀ k, bs (at0 (numL f k)) way (numL f k).length = bs f way k
  | 0 => rfl
  | k + 1 => by
    cases h : nanB (f k) with
    | true => rw [numL_no h, bs_numL f way k, bs_no h]
    | false =>
      rw [numL_yes h, List.length_append]
      show bs (at0 (numL f k ++ [f k])) way ((numL f k).length + 1) = _
      rw [bs, at0_last, bs_congr (g := at0 (numL f k)) (fun i hi => at0_left hi), bs_numL f way k, bs]
theorem bs_first {g : Nat → BitVec 64} {way : Int} {k : Nat} (hg : nanB (g k) = false) (h : k = 0) : g k = bs g way (k + 1) := by subst h; exact bs_take hg (.inl nan0_nan)
theorem al_take {f : Nat → BitVec 64} {way : Int} {k : Nat} {r : BitVec 64} (ha : al r (bs f way k)) (h : nanB (f k) = false) (h' : nanB r = true ∨ ord (f k) r = way) : al (f k) (bs f way (k + 1)) := by
  rw [ha.nan, alR ha] at h'
  exact .inl (bs_take h h')
theorem al_no {f : Nat → BitVec 64} {way : Int} {k : Nat} {r : BitVec 64} (ha : al r (bs f way k)) (h : nanB (f k) = true) : al r (bs f way (k + 1)) := by rw [← bs_no h]; exact ha
theorem al_keep {f : Nat → BitVec 64} {way : Int} {k : Nat} {r : BitVec 64} (ha : al r (bs f way k)) (h : nanB (f k) = false) (h' : nanB r = false) (ho : ¬ ord (f k) r = way) : al r (bs f way (k + 1)) := by
  rw [ha.nan] at h'
  rw [alR ha] at ho
  rw [← bs_keep h h' ho]; exact ha
theorem quo_zero {r : BitVec 64} (h : FR .quo 0#64 0#64 r) : nanB r = true := h.of_none (by decide +kernel)
/-- What a sum of the numbers among the first k may be. -/
def sumR (f : Nat → BitVec 64) : Nat → BitVec 64 → Prop
  | 0, s => s = 0#64
  | k + 1, s => if nanB (f k) then sumR f k s else ∃ p, sumR f k p ∧ FR .add p (f k) s
theorem sumR_zero (f : Nat → BitVec 64) : sumR f 0 0#64 := rfl
theorem sumR_no {f : Nat → BitVec 64} {k : Nat} {s : BitVec 64} (h : nanB (f k) = true) (hs : sumR f k s) : sumR f (k + 1) s := by unfold sumR; rw [if_pos h]; exact hs
theorem sumR_yes {f : Nat → BitVec 64} {k : Nat} {p s : BitVec 64} (h : nanB (f k) = false) (hs : sumR f k p) (hr : FR .add p (f k) s) : sumR f (k + 1) s := by unfold sumR; rw [if_neg (by rw [h]; decide)]; exact ⟨p, hs, hr⟩
theorem sumR_al {f : Nat → BitVec 64} : ∀ {k : Nat} {s t : BitVec 64}, sumR f k s → sumR f k t → al s t
  | 0, s, t, h, h' => by rw [show s = 0#64 from h, show t = 0#64 from h']; exact .inl rfl
  | k + 1, s, t, h, h' => by
    unfold sumR at h h'
    split at h
    · rename_i hn; rw [if_pos hn] at h'; exact sumR_al h h'
    · rename_i hn; rw [if_neg hn] at h'
      obtain ⟨p, h1, h2⟩ := h
      obtain ⟨q, h3, h4⟩ := h'
      exact h2.al (sumR_al h1 h3) (al.refl _) h4
theorem sumR_congr {f g : Nat → BitVec 64} : ∀ {k : Nat} {s : BitVec 64}, (∀ i, i < k → f i = g i) → sumR f k s → sumR g k s
  | 0, _, _, h => h
  | k + 1, s, e, h => by
    unfold sumR at h ⊢
    rw [← e k (by omega)]
    split
    · rename_i hn; rw [if_pos hn] at h; exact sumR_congr (fun i hi => e i (by omega)) h
    · rename_i hn; rw [if_neg hn] at h
      obtain ⟨p, h1, h2⟩ := h
      exact ⟨p, sumR_congr (fun i hi => e i (by omega)) h1, h2⟩
theorem sumR_numL {f : Nat → BitVec 64} : ∀ {k : Nat} {s : BitVec 64}, sumR (at0 (numL f k)) (numL f k).length s → sumR f k s
  | 0, _, h => h
  | k + 1, s, h => by
    cases hn : nanB (f k) with
    | true => rw [numL_no hn] at h; exact sumR_no hn (sumR_numL h)
    | false =>
      rw [numL_yes hn, List.length_append] at h
      have h' : sumR (at0 (numL f k ++ [f k])) ((numL f k).length + 1) s := h
      unfold sumR at h'
      rw [at0_last, if_neg (by rw [hn]; decide)] at h'
      obtain ⟨p, h1, h2⟩ := h'
      exact sumR_yes hn (sumR_numL (sumR_congr (fun i hi => at0_left hi) h1)) h2
/-- What the mean may be. -/
def meanR (f : Nat → BitVec 64) (m : Nat) (v : Value) : Prop := ∃ s r, v = F r ∧ sumR f m s ∧ FR .quo s (fi ((numL f m).length : Int)) r
theorem meanR_al {f : Nat → BitVec 64} {m : Nat} {v v' : Value} (h : meanR f m v) (h' : meanR f m v') : ∃ r r', v = F r ∧ v' = F r' ∧ al r r' := by
  obtain ⟨s, r, e, h1, h2⟩ := h
  obtain ⟨s', r', e', h1', h2'⟩ := h'
  exact ⟨r, r', e, e', h2.al (sumR_al h1 h1') (al.refl _) h2'⟩
theorem best_al {f : Nat → BitVec 64} {way : Int} {m : Nat} {v : Value} (h : ∃ r, v = F r ∧ al r (bs f way m)) : ∃ r, v = F r ∧ al (bs f way m) r := by
  obtain ⟨r, e, h⟩ := h
  exact ⟨r, e, h.symm⟩
/-! ### the ends -/
def sm (f : Nat → BitVec 64) : Nat → Bool
  | 0 => false
  | k + 1 => sm f k || !nanB (f k)
def att (f : Nat → BitVec 64) (c : BitVec 64) : Nat → Bool
  | 0 => false
  | k + 1 => att f c k || (!nanB (f k) && decide (ord (f k) c = 0))
theorem sm_no {f : Nat → BitVec 64} {k : Nat} (h : nanB (f k) = true) : sm f k = sm f (k + 1) := by rw [sm, h]; simp
theorem sm_yes {f : Nat → BitVec 64} {k : Nat} (h : nanB (f k) = false) : true = sm f (k + 1) := by rw [sm, h]; simp
theorem att_no {f : Nat → BitVec 64} {c : BitVec 64} {k : Nat} (h : nanB (f k) = true) : att f c k = att f c (k + 1) := by rw [att, h]; simp
theorem att_had {f : Nat → BitVec 64} {c : BitVec 64} {k : Nat} (h : att f c k = true) : true = att f c (k + 1) := by rw [att, h]; rfl
theorem att_new {f : Nat → BitVec 64} {c : BitVec 64} {k : Nat} (h : att f c k = false) (hn : nanB (f k) = false) : decide (ord (f k) c = 0) = att f c (k + 1) := by rw [att, h, hn]; simp
theorem sm_false {f : Nat → BitVec 64} : ∀ {k : Nat}, sm f k = false → ∀ i, i < k → nanB (f i) = true
  | 0, _, i, hi => by omega
  | k + 1, h, i, hi => by
    rw [sm, Bool.or_eq_false_iff] at h
    by_cases q : i = k
    · subst q; simpa using h.2
    · exact sm_false h.1 i (by omega)
theorem none_bs {f : Nat → BitVec 64} {way : Int} : ∀ {k : Nat}, (∀ i, i < k → nanB (f i) = true) → nanB (bs f way k) = true
  | 0, _ => nan0_nan
  | k + 1, h => by rw [← bs_no (h k (by omega))]; exact none_bs fun i hi => h i (by omega)
theorem none_numL {f : Nat → BitVec 64} : ∀ {k : Nat}, (∀ i, i < k → nanB (f i) = true) → numL f k = []
  | 0, _ => rfl
  | k + 1, h => by rw [numL_no (h k (by omega))]; exact none_numL fun i hi => h i (by omega)
theorem none_sum {f : Nat → BitVec 64} : ∀ {k : Nat} {s : BitVec 64}, (∀ i, i < k → nanB (f i) = true) → sumR f k s → s = 0#64
  | 0, _, _, h => h
  | k + 1, s, h, hs => by
    unfold sumR at hs
    rw [if_pos (h k (by omega))] at hs
    exact none_sum (fun i hi => h i (by omega)) hs
theorem fi_zero : fi 0 = 0#64 := by decide +kernel
theorem none_mean {f : Nat → BitVec 64} {m : Nat} {v : Value} (h : ∀ i, i < m → nanB (f i) = true) (hm : meanR f m v) : ∃ r, v = F r ∧ nanB r = true := by
  obtain ⟨s, r, e, h1, h2⟩ := hm
  rw [none_sum h h1, none_numL h, show (([] : List (BitVec 64)).length : Int) = 0 from rfl, fi_zero] at h2
  exact ⟨r, e, quo_zero h2⟩
/-- The end by order: nothing lies beyond it; and it is there. -/
theorem bs_low {f : Nat → BitVec 64} : ∀ {k : Nat}, (∀ i, i < k → nanB (f i) = false → nk (bs f (-1) k) ≤ nk (f i) ∧ nanB (bs f (-1) k) = false) ∧ (nanB (bs f (-1) k) = false → ∃ i, i < k ∧ nanB (f i) = false ∧ bs f (-1) k = f i)
  | 0 => ⟨fun i hi => by omega, fun h => by rw [show bs f (-1) 0 = nan0 from rfl, nan0_nan] at h; cases h⟩
  | k + 1 => by
    obtain ⟨h1, h2⟩ := bs_low (f := f) (k := k)
    cases hn : nanB (f k) with
    | true =>
      rw [← bs_no hn]
      refine ⟨fun i hi hi2 => ?_, fun h => ?_⟩
      · by_cases q : i = k
        · subst q; rw [hn] at hi2; cases hi2
        · exact h1 i (by omega) hi2
      · obtain ⟨i, a, b, c⟩ := h2 h
        exact ⟨i, by omega, b, c⟩
    | false =>
      by_cases q : nanB (bs f (-1) k) = true ∨ ord (f k) (bs f (-1) k) = -1
      · rw [← bs_take hn q]
        refine ⟨fun i hi hi2 => ⟨?_, hn⟩, fun _ => ⟨k, by omega, hn, rfl⟩⟩
        by_cases e : i = k
        · subst e; exact Int.le_refl _
        · obtain ⟨a, b⟩ := h1 i (by omega) hi2
          rcases q with q | q
          · rw [b] at q; cases q
          · have := (ord_neg' (f k) (bs f (-1) k)).1 (by omega)
            omega
      · have q1 : nanB (bs f (-1) k) = false := by cases e : nanB (bs f (-1) k) with
          | true => exact absurd (.inl e) q
          | false => rfl
        have q2 : ¬ ord (f k) (bs f (-1) k) = -1 := fun e => q (.inr e)
        rw [← bs_keep hn q1 q2]
        refine ⟨fun i hi hi2 => ⟨?_, q1⟩, fun h => ?_⟩
        · by_cases e : i = k
          · subst e
            have b1 := ord_bnd (f i) (bs f (-1) i)
            have := (ord_neg' (f i) (bs f (-1) i))
            omega
          · exact (h1 i (by omega) hi2).1
        · obtain ⟨i, a, b, c⟩ := h2 h
          exact ⟨i, by omega, b, c⟩
theorem bs_high {f : Nat → BitVec 64} : ∀ {k : Nat}, (∀ i, i < k → nanB (f i) = false → nk (f i) ≤ nk (bs f 1 k) ∧ nanB (bs f 1 k) = false) ∧ (nanB (bs f 1 k) = false → ∃ i, i < k ∧ nanB (f i) = false ∧ bs f 1 k = f i)
  | 0 => ⟨fun i hi => by omega, fun h => by rw [show bs f 1 0 = nan0 from rfl, nan0_nan] at h; cases h⟩
  | k + 1 => by
    obtain ⟨h1, h2⟩ := bs_high (f := f) (k := k)
    cases hn : nanB (f k) with
    | true =>
      rw [← bs_no hn]
      refine ⟨fun i hi hi2 => ?_, fun h => ?_⟩
      · by_cases q : i = k
        · subst q; rw [hn] at hi2; cases hi2
        · exact h1 i (by omega) hi2
      · obtain ⟨i, a, b, c⟩ := h2 h
        exact ⟨i, by omega, b, c⟩
    | false =>
      by_cases q : nanB (bs f 1 k) = true ∨ ord (f k) (bs f 1 k) = 1
      · rw [← bs_take hn q]
        refine ⟨fun i hi hi2 => ⟨?_, hn⟩, fun _ => ⟨k, by omega, hn, rfl⟩⟩
        by_cases e : i = k
        · subst e; exact Int.le_refl _
        · obtain ⟨a, b⟩ := h1 i (by omega) hi2
          rcases q with q | q
          · rw [b] at q; cases q
          · have := (ord_pos (f k) (bs f 1 k)).1 (by omega)
            omega
      · have q1 : nanB (bs f 1 k) = false := by cases e : nanB (bs f 1 k) with
          | true => exact absurd (.inl e) q
          | false => rfl
        have q2 : ¬ ord (f k) (bs f 1 k) = 1 := fun e => q (.inr e)
        rw [← bs_keep hn q1 q2]
        refine ⟨fun i hi hi2 => ⟨?_, q1⟩, fun h => ?_⟩
        · by_cases e : i = k
          · subst e
            have b1 := ord_bnd (f i) (bs f 1 i)
            have := (ord_pos (f i) (bs f 1 i))
            omega
          · exact (h1 i (by omega) hi2).1
        · obtain ⟨i, a, b, c⟩ := h2 h
          exact ⟨i, by omega, b, c⟩
theorem low_no {f : Nat → BitVec 64} {m k : Nat} (hk : k < m) (h : nanB (f k) = false) : decide (ord (f k) (bs f (-1) m) < 0) = false := by
  refine decide_eq_false fun q => ?_
  have h1 := (bs_low.1 k hk h).1
  rw [ord_neg'] at q
  omega
theorem high_no {f : Nat → BitVec 64} {m k : Nat} (hk : k < m) (h : nanB (f k) = false) : decide (0 < ord (f k) (bs f 1 m)) = false := by
  refine decide_eq_false fun q => ?_
  have h1 := (bs_high.1 k hk h).1
  rw [ord_pos] at q
  omega
theorem att_of {f : Nat → BitVec 64} {c : BitVec 64} : ∀ {k i : Nat}, i < k → nanB (f i) = false → ord (f i) c = 0 → att f c k = true
  | 0, i, h, _, _ => by omega
  | k + 1, i, h, hn, ho => by
    by_cases q : i = k
    · subst q; rw [att, hn, decide_eq_true ho]; simp
    · rw [att, att_of (show i < k by omega) hn ho]; rfl
theorem sm_true {f : Nat → BitVec 64} : ∀ {k : Nat}, sm f k = true → ∃ i, i < k ∧ nanB (f i) = false
  | 0, h => by cases h
  | k + 1, h => by
    rw [sm, Bool.or_eq_true] at h
    rcases h with h | h
    · obtain ⟨i, a, b⟩ := sm_true h; exact ⟨i, by omega, b⟩
    · exact ⟨k, by omega, by simpa using h⟩
theorem low_at {f : Nat → BitVec 64} {m : Nat} (h : sm f m = true) : att f (bs f (-1) m) m = true := by
  obtain ⟨i, hi, hn⟩ := sm_true h
  obtain ⟨j, a, b, c⟩ := bs_low.2 (bs_low.1 i hi hn).2
  exact att_of a b (by rw [← c]; exact ord_self _)
theorem high_at {f : Nat → BitVec 64} {m : Nat} (h : sm f m = true) : att f (bs f 1 m) m = true := by
  obtain ⟨i, hi, hn⟩ := sm_true h
  obtain ⟨j, a, b, c⟩ := bs_high.2 (bs_high.1 i hi hn).2
  exact att_of a b (by rw [← c]; exact ord_self _)
end Go.Sym
