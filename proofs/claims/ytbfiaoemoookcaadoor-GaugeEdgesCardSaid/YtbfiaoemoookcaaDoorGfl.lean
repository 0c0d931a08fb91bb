/-
  Arithmetic of floats on words: what a result looks like, that equal operands give equal results, halves, thousandfolds, cut to whole numbers. No program is in sight here.
-/
import Derived.Test.YtbfiaoemoookcaaDoorGa
import Derived.Test.YtbfiaoemoookcaaDoorGdig
namespace Go.Sym
open Go Ieee

theorem inf_rung : double.infRung = infR := by decide
theorem sign_w : double.signWeight = 9223372036854775808 := by decide
theorem binade_d : double.binade = 4503599627370496 := by decide
theorem write_word (d : Datum) (hd : d.isNaN = false) : ∃ r, r ≤ infR ∧ double.write d = double.word d.neg r := by
  cases d with
  | number s m p =>
    show ∃ r, r ≤ infR ∧ double.nearest s m p = double.word s r
    unfold Format.nearest
    by_cases h : m = 0
    · rw [if_pos h]; exact ⟨0, Nat.zero_le _, rfl⟩
    · rw [if_neg h]; exact ⟨_, Nat.le_trans (Nat.min_le_right ..) (by rw [inf_rung]; exact Nat.le_refl _), rfl⟩
  | infinity s => exact ⟨infR, Nat.le_refl _, by show double.word s double.infRung = _; rw [inf_rung]; rfl⟩
  | nan s t => cases hd
theorem word_facts {b : BitVec 64} {s : Bool} {r : Nat} (h : b.toNat = double.word s r) (hr : r ≤ infR) : sgn b = s ∧ rung b = r := by
  have hi : infR = 9218868437227405312 := rfl
  unfold Format.word at h
  rw [sign_w] at h
  unfold sgn rung
  cases s with
  | true =>
    rw [if_pos rfl] at h
    rw [h, show (9223372036854775808 + r) / 9223372036854775808 = 1 by omega]
    exact ⟨rfl, by omega⟩
  | false =>
    rw [if_neg (by decide)] at h
    rw [h, show r / 9223372036854775808 = 0 by omega]
    exact ⟨rfl, by omega⟩
theorem num_of {b : BitVec 64} (h : rung b ≤ infR) : nanB b = false := by
  cases hn : nanB b with
  | false => rfl
  | true => have := (nanB_iff b).1 hn; omega
theorem sum_num {x y d : Datum} (h : x.sum y = some d) : d.isNaN = false ∧ x.isNaN = false ∧ y.isNaN = false := by
  cases x <;> cases y <;> simp only [Datum.sum] at h <;> (try cases h) <;> first | exact ⟨rfl, rfl, rfl⟩ | (split at h <;> cases h; exact ⟨rfl, rfl, rfl⟩)
theorem product_num {x y d : Datum} (h : x.product y = some d) : d.isNaN = false ∧ x.isNaN = false ∧ y.isNaN = false := by
  cases x <;> cases y <;> simp only [Datum.product] at h <;> (try cases h) <;> first | exact ⟨rfl, rfl, rfl⟩ | (split at h <;> cases h; exact ⟨rfl, rfl, rfl⟩)
theorem quotient_num {k : Nat} {x y d : Datum} (h : x.quotient k y = some d) : d.isNaN = false ∧ x.isNaN = false ∧ y.isNaN = false := by
  cases x <;> cases y <;> simp only [Datum.quotient] at h <;> (try cases h) <;> first
    | exact ⟨rfl, rfl, rfl⟩
    | (split at h
       · split at h <;> cases h; exact ⟨rfl, rfl, rfl⟩
       · cases h; exact ⟨rfl, rfl, rfl⟩)
theorem opp_nan (d : Datum) : d.opposite.isNaN = d.isNaN := by cases d <;> rfl
theorem map_some {d : Option Datum} {v : Nat} (h : d.map double.write = some v) : ∃ e, d = some e ∧ double.write e = v := Option.map_eq_some_iff.1 h
/-- A result that is told: a sign and a rung, and both operands are numbers or ends. -/
theorem bits_word {op : BinOp} {x y v : Nat} (h : floatBits op .f64 x y = some v) : (∃ s r, r ≤ infR ∧ v = double.word s r) ∧ nanN x = false ∧ nanN y = false := by
  unfold floatBits at h
  unfold nanN
  split at h
  · obtain ⟨e, h1, h2⟩ := map_some h
    obtain ⟨a, b, c⟩ := sum_num h1
    obtain ⟨r, hr, hw⟩ := write_word e a
    exact ⟨⟨_, r, hr, h2.symm.trans hw⟩, b, c⟩
  · obtain ⟨e, h1, h2⟩ := map_some h
    obtain ⟨a, b, c⟩ := sum_num h1
    obtain ⟨r, hr, hw⟩ := write_word e a
    exact ⟨⟨_, r, hr, h2.symm.trans hw⟩, b, by rw [← opp_nan]; exact c⟩
  · obtain ⟨e, h1, h2⟩ := map_some h
    obtain ⟨a, b, c⟩ := product_num h1
    obtain ⟨r, hr, hw⟩ := write_word e a
    exact ⟨⟨_, r, hr, h2.symm.trans hw⟩, b, c⟩
  · obtain ⟨e, h1, h2⟩ := map_some h
    obtain ⟨a, b, c⟩ := quotient_num h1
    obtain ⟨r, hr, hw⟩ := write_word e a
    exact ⟨⟨_, r, hr, h2.symm.trans hw⟩, b, c⟩
  · cases h
theorem FR.of_some {op : BinOp} {x y r : BitVec 64} {v : Nat} (h : FR op x y r) (e : floatBits op .f64 x.toNat y.toNat = some v) : r.toNat = v := by unfold FR at h; rw [e] at h; exact h
theorem FR.of_none {op : BinOp} {x y r : BitVec 64} (h : FR op x y r) (e : floatBits op .f64 x.toNat y.toNat = none) : nanB r = true := by unfold FR at h; rw [e] at h; exact h
theorem FR.eq {op : BinOp} {x y r : BitVec 64} {v : BitVec 64} (h : FR op x y r) (e : floatBits op .f64 x.toNat y.toNat = some v.toNat) : r = v := BitVec.eq_of_toNat_eq (h.of_some e)
theorem bits_nan {op : BinOp} {x y : BitVec 64} (h : nanB x = true ∨ nanB y = true) : floatBits op .f64 x.toNat y.toNat = none := by
  cases e : floatBits op .f64 x.toNat y.toNat with
  | none => rfl
  | some v =>
    obtain ⟨_, h1, h2⟩ := bits_word e
    unfold nanB at h
    rcases h with h | h
    · rw [h1] at h; cases h
    · rw [h2] at h; cases h
/-- Two words that are one, or both no number. -/
def al (x y : BitVec 64) : Prop := x = y ∨ (nanB x = true ∧ nanB y = true)
theorem al.refl (x : BitVec 64) : al x x := .inl rfl
theorem al.nk {x y : BitVec 64} (h : al x y) : nk x = nk y := by
  rcases h with rfl | ⟨h1, h2⟩
  · rfl
  · rw [nk_nan h1, nk_nan h2]
theorem al.ord {x y : BitVec 64} (h : al x y) : ord x y = 0 := (ord_eq h.nk).symm
theorem FR.al {op : BinOp} {x x' y y' r r' : BitVec 64} (hx : al x x') (hy : al y y') (h : FR op x y r) (h' : FR op x' y' r') : Go.Sym.al r r' := by
  have both : ∀ {p q s : BitVec 64}, FR op p q s → (nanB p = true ∨ nanB q = true) → nanB s = true := fun h hn => h.of_none (bits_nan hn)
  rcases hx with rfl | ⟨a, b⟩
  · rcases hy with rfl | ⟨c, d⟩
    · cases e : floatBits op .f64 x.toNat y.toNat with
      | none => exact .inr ⟨h.of_none e, h'.of_none e⟩
      | some v => exact .inl (BitVec.eq_of_toNat_eq ((h.of_some e).trans (h'.of_some e).symm))
    · exact .inr ⟨both h (.inr c), both h' (.inr d)⟩
  · exact .inr ⟨both h (.inl a), both h' (.inl b)⟩
/-- A whole number as a float. -/
def fi (n : Int) : BitVec 64 := BitVec.ofNat 64 (floatOfInt .f64 n)
theorem fi_nat (n : Int) : (fi n).toNat = floatOfInt .f64 n := by
  have h := floatOfInt_wf .f64 n
  have h' : floatOfInt .f64 n < 18446744073709551616 := by simpa [Lit.wf] using h
  unfold fi
  rw [BitVec.toNat_ofNat]; exact Nat.mod_eq_of_lt h'

/-! ### sizes without sign -/
def absB (x : BitVec 64) : BitVec 64 := x &&& ~~~9223372036854775808#64
theorem abs_nat (x : BitVec 64) : (absB x).toNat = rung x := by
  have e : absB x = BitVec.ofNat 64 (x.toNat % 2 ^ 63) := by
    apply BitVec.eq_of_toNat_eq
    unfold absB
    rw [BitVec.toNat_and, show (~~~9223372036854775808#64).toNat = 2 ^ 63 - 1 by decide, Nat.and_two_pow_sub_one_eq_mod, BitVec.toNat_ofNat]
    exact (Nat.mod_eq_of_lt (Nat.lt_of_lt_of_le (Nat.mod_lt _ (by decide)) (by decide))).symm
  rw [e, BitVec.toNat_ofNat]
  show x.toNat % 9223372036854775808 % 18446744073709551616 = x.toNat % 9223372036854775808
  omega
theorem rung_abs (x : BitVec 64) : rung (absB x) = rung x := by
  have := rung_lt x
  unfold rung at *
  rw [abs_nat]; unfold rung; omega
theorem sgn_abs (x : BitVec 64) : sgn (absB x) = false := by
  have := rung_lt x
  unfold sgn
  rw [abs_nat, show rung x / 9223372036854775808 = 0 by omega]; rfl
theorem abs_self {x : BitVec 64} (h : sgn x = false) : absB x = x := by
  apply BitVec.eq_of_toNat_eq
  rw [abs_nat]
  have hx := x.isLt
  unfold sgn at h
  unfold rung
  have : ¬ x.toNat / 9223372036854775808 % 2 = 1 := by simpa using h
  omega
theorem neg_abs {x : BitVec 64} (h : sgn x = true) : x ^^^ 9223372036854775808#64 = absB x := by
  have hx := x.isLt
  have h1 : x.toNat / 9223372036854775808 % 2 = 1 := by unfold sgn at h; simpa using h
  have hm : x.msb = true := by rw [BitVec.msb_eq_decide]; exact decide_eq_true (by show 9223372036854775808 ≤ x.toNat; omega)
  unfold absB
  ext i hi
  simp only [BitVec.getElem_xor, BitVec.getElem_and, BitVec.getElem_not]
  by_cases hq : i = 63
  · subst hq
    have : x[63] = true := by rw [BitVec.msb_eq_getLsbD_last] at hm; simpa [BitVec.getLsbD_eq_getElem] using hm
    have e : (9223372036854775808#64)[63]'hi = true := by
      rw [show 9223372036854775808#64 = BitVec.twoPow 64 63 from by decide, BitVec.getElem_twoPow]; rfl
    rw [this, e]; rfl
  · have e : (9223372036854775808#64)[i] = false := by
      rw [show 9223372036854775808#64 = BitVec.twoPow 64 63 from by decide, BitVec.getElem_twoPow]
      exact decide_eq_false hq
    rw [e]; simp
theorem nan_abs (x : BitVec 64) : nanB (absB x) = nanB x := by
  cases h : nanB x with
  | true => exact (nanB_iff _).2 (by rw [rung_abs]; exact (nanB_iff x).1 h)
  | false => exact num_of (by rw [rung_abs]; exact nanB_no h)
theorem fo_pos {x y : BitVec 64} (hx : nanB x = false) (hy : nanB y = false) (sx : sgn x = false) (sy : sgn y = false) : fo x y = some (compare (rung x) (rung y)) := by
  rw [fo_key hx hy]; unfold key sg; rw [sx, sy]
  simp only [if_false, Bool.false_eq_true]
  congr 1
  rw [cmp_int]
  show _ = (if rung x < rung y then Ordering.lt else if rung x = rung y then .eq else .gt)
  simp only [Int.ofNat_lt, Int.ofNat_inj]
theorem isinf_eq (x : BitVec 64) : (fo (absB x) 9218868437227405311#64 == some .gt) = (rung x == infR) := by
  have hi : infR = 9218868437227405312 := rfl
  cases hn : nanB x with
  | true =>
    rw [fo_nanL (by rw [nan_abs]; exact hn)]
    have := (nanB_iff x).1 hn
    exact (beq_eq_false_iff_ne.2 (by omega)).symm
  | false =>
    have h1 := nanB_no hn
    rw [fo_pos (by rw [nan_abs]; exact hn) (by decide) (sgn_abs x) (by decide), rung_abs, show rung 9218868437227405311#64 = 9218868437227405311 by decide]
    show (some (if rung x < 9218868437227405311 then Ordering.lt else if rung x = 9218868437227405311 then .eq else .gt) == some .gt) = _
    by_cases h : rung x = infR
    · rw [if_neg (by omega), if_neg (by omega), h]; rfl
    · rw [beq_eq_false_iff_ne.2 h]
      by_cases h2 : rung x < 9218868437227405311
      · rw [if_pos h2]; rfl
      · rw [if_neg h2, if_pos (by omega)]; rfl

/-! ### the thousandfold -/
def mulR (a : BitVec 64) : BitVec 64 := BitVec.ofNat 64 ((floatBits .mul .f64 a.toNat 4652007308841189376).getD 0)
theorem mul_some {a : BitVec 64} (hs : sgn a = false) (hn : nanB a = false) : ∃ v r, floatBits .mul .f64 a.toNat 4652007308841189376 = some v ∧ r ≤ infR ∧ v = double.word false r := by
  have hk : double.read 4652007308841189376 = .number false 8796093022208000 (-43) := by decide +kernel
  have hr := nanB_no hn
  show ∃ v r, ((double.read a.toNat).product (double.read 4652007308841189376)).map double.write = some v ∧ _
  rw [hk]
  rcases Nat.lt_or_ge (rung a) infR with p | p
  · obtain ⟨m, i, e, _⟩ := read_num p
    rw [e, hs]
    obtain ⟨r, h1, h2⟩ := write_word (.number false (m * 8796093022208000) (double.leastPlace + (i : Int) + (-43))) rfl
    exact ⟨_, r, rfl, h1, h2⟩
  · rw [read_inf (by omega), hs]
    obtain ⟨r, h1, h2⟩ := write_word (.infinity false) rfl
    exact ⟨_, r, rfl, h1, h2⟩
theorem mul_eq {a r : BitVec 64} (hs : sgn a = false) (hn : nanB a = false) (h : FR .mul a 4652007308841189376#64 r) : r = mulR a ∧ sgn r = false ∧ nanB r = false := by
  obtain ⟨v, k, e, hk, hv⟩ := mul_some hs hn
  have h1 : r.toNat = v := h.of_some e
  have h2 := word_facts (h1.trans hv) hk
  refine ⟨?_, h2.1, num_of (by rw [h2.2]; exact hk)⟩
  apply BitVec.eq_of_toNat_eq
  unfold mulR
  rw [e, Option.getD_some, ← h1, BitVec.toNat_ofNat]
  exact (Nat.mod_eq_of_lt r.isLt).symm
/-- Cut to a whole number. -/
def fl (y : BitVec 64) : Nat := (((double.read y.toNat).toInt .zero).getD 0).toNat
theorem big_iff {y : BitVec 64} (hs : sgn y = false) (hn : nanB y = false) : (fo y 4845873199050653696#64 == some .gt || fo y 4845873199050653696#64 == some .eq) = decide (4845873199050653696 ≤ rung y) := by
  rw [fo_pos hn (by decide) hs (by decide), show rung 4845873199050653696#64 = 4845873199050653696 by decide]
  show (some (if rung y < 4845873199050653696 then Ordering.lt else if rung y = 4845873199050653696 then .eq else .gt) == some .gt || some (if rung y < 4845873199050653696 then Ordering.lt else if rung y = 4845873199050653696 then .eq else .gt) == some .eq) = _
  by_cases h : rung y < 4845873199050653696
  · rw [if_pos h, decide_eq_false (by omega)]; rfl
  · rw [if_neg h, decide_eq_true (by omega)]
    by_cases h2 : rung y = 4845873199050653696
    · rw [if_pos h2]; rfl
    · rw [if_neg h2]; rfl
theorem fl_int {y : BitVec 64} (hs : sgn y = false) (hr : rung y < 4845873199050653696) : (double.read y.toNat).toInt .zero = some (fl y : Int) ∧ fl y < 9007199254740992 := by
  have key : ∃ n : Nat, (double.read y.toNat).toInt .zero = some (n : Int) ∧ n < 9007199254740992 := by
    rw [read_word, hs]
    have cutz : ∀ (m d : Nat), Toward.zero.cut false m d ≤ m := fun m d => by
      unfold Toward.cut
      simp only [Bool.toNat_false, Nat.add_zero]
      exact Nat.div_le_self _ _
    by_cases h1 : rung y < 4503599627370496
    · rw [if_pos h1]
      refine ⟨Toward.zero.cut false (rung y <<< double.leastPlace.toNat) (-double.leastPlace).toNat, ?_, ?_⟩
      · show some (signed false _ 0) = _
        unfold signed; rw [if_neg (by decide), Nat.shiftLeft_zero]
      · rw [show double.leastPlace.toNat = 0 by decide, Nat.shiftLeft_zero]
        exact Nat.lt_of_le_of_lt (cutz _ _) (by omega)
    · have hi : infR = 9218868437227405312 := rfl
      rw [if_neg h1, if_pos (show rung y < infR by omega)]
      refine ⟨_, by
        show some (signed false _ 0) = some _
        unfold signed; rw [if_neg (by decide), Nat.shiftLeft_zero], ?_⟩
      have hp : (double.leastPlace + ((rung y / 4503599627370496 - 1 : Nat) : Int)).toNat = 0 := by
        have : double.leastPlace = -1074 := by decide
        rw [this]; omega
      rw [hp, Nat.shiftLeft_zero]
      exact Nat.lt_of_le_of_lt (cutz _ _) (by omega)
  obtain ⟨n, h1, h2⟩ := key
  have e : fl y = n := by unfold fl; rw [h1]; rfl
  rw [e]; exact ⟨h1, h2⟩
theorem fl_u64 {y : BitVec 64} (hs : sgn y = false) (hr : rung y < 4845873199050653696) : floatToIntVal .f64 y.toNat .u64 = some (fl y : Int) := by
  obtain ⟨h1, h2⟩ := fl_int hs hr
  unfold floatToIntVal
  rw [show (FloatKind.decode .f64 y.toNat).toInt .zero = some (fl y : Int) from h1]
  simp only
  rw [if_pos ⟨by show (0 : Int) ≤ _; omega, by show _ ≤ (18446744073709551615 : Int); omega⟩]
theorem fl_i64 {y : BitVec 64} (hs : sgn y = false) (hr : rung y < 4845873199050653696) : floatToIntVal .f64 y.toNat .i64 = some (fl y : Int) := by
  obtain ⟨h1, h2⟩ := fl_int hs hr
  unfold floatToIntVal
  rw [show (FloatKind.decode .f64 y.toNat).toInt .zero = some (fl y : Int) from h1]
  simp only
  rw [if_pos ⟨by show (-9223372036854775808 : Int) ≤ _; omega, by show _ ≤ (9223372036854775807 : Int); omega⟩]
/-- How a number is shown. -/
def shw (x : BitVec 64) : List UInt8 := if nanB x then [110, 97, 110] else (if sgn x then [45] else []) ++ (if rung x = infR then [105, 110, 102] else if rung (mulR (absB x)) < 4845873199050653696 then th (fl (mulR (absB x))) else [98, 105, 103])
theorem shw_nan {x : BitVec 64} (h : nanB x = true) : shw x = [110, 97, 110] := by unfold shw; rw [if_pos h]
theorem shw_inf {x : BitVec 64} (h : nanB x = false) (hi : rung x = infR) : shw x = (if sgn x then [45] else []) ++ [105, 110, 102] := by unfold shw; rw [if_neg (by rw [h]; decide), if_pos hi]
theorem shw_big {x : BitVec 64} (h : nanB x = false) (hi : ¬ rung x = infR) (hb : ¬ rung (mulR (absB x)) < 4845873199050653696) : shw x = (if sgn x then [45] else []) ++ [98, 105, 103] := by unfold shw; rw [if_neg (by rw [h]; decide), if_neg hi, if_neg hb]
theorem shw_th {x : BitVec 64} (h : nanB x = false) (hi : ¬ rung x = infR) (hb : rung (mulR (absB x)) < 4845873199050653696) : shw x = (if sgn x then [45] else []) ++ th (fl (mulR (absB x))) := by unfold shw; rw [if_neg (by rw [h]; decide), if_neg hi, if_pos hb]
end Go.Sym
