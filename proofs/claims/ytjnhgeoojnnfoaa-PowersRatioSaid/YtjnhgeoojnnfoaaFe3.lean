/-
  What the walks of package fe need beside the kit: fields of structs of numbers, elements that are structs, sums of loops.
-/
import Derived.Test.YtjnhgeoojnnfoaaFe2
import Derived.Test.YtjnhgeoojnnfoaaSymCall
namespace Go.Sym
open Go

def fil {α : Type} (z : α) (g : Nat → α) : Nat → Nat → α
  | 0 => fun _ => z
  | k + 1 => upd (fil z g k) k (g k)
theorem fil_get {α : Type} (z : α) (g : Nat → α) : ∀ (k i : Nat), fil z g k i = if i < k then g i else z := by
  intro k
  induction k with
  | zero => intro i; rw [if_neg (by omega)]; rfl
  | succ k ih =>
    intro i
    show upd _ _ _ i = _
    unfold upd
    by_cases h : i = k
    · subst h; rw [if_pos rfl, if_pos (by omega)]
    · rw [if_neg h, ih]
      by_cases h2 : i < k
      · rw [if_pos h2, if_pos (by omega)]
      · rw [if_neg h2, if_neg (by omega)]
theorem cB_fil (m : Nat) (z : BitVec 8) (g : Nat → BitVec 8) : cB m (fil z g m) = cB m g := cB_congr fun i hi => by rw [fil_get, if_pos hi]
theorem cU_fil (m : Nat) (z : BitVec 64) (g : Nat → BitVec 64) : cU m (fil z g m) = cU m g := cU_congr fun i hi => by rw [fil_get, if_pos hi]
theorem upd_ne {α : Type} (f : Nat → α) {i j : Nat} (v : α) (h : j ≠ i) : upd f i v j = f j := by unfold upd; rw [if_neg h]
theorem upd_self {α : Type} (f : Nat → α) (i : Nat) (v : α) : upd f i v i = v := by unfold upd; rw [if_pos rfl]
theorem of_step (f : Nat → BitVec 8) (k : Nat) : upd (limb (natB f k)) (k / 8) (limb (natB f k) (k / 8) ||| (f k).setWidth 64 <<< (k % 8 * 8)) = limb (natB f (k + 1)) := by
  rw [limb_or _ _ k (natB_lt f k) (f k).isLt _ (by rw [BitVec.toNat_setWidth]; have := (f k).isLt; omega)]
  rfl
theorem limb_zero : limb 0 = fun _ => 0 := by funext i; unfold limb; rw [Nat.zero_div]; rfl

/-- Each limb changed by its own. -/
def mapTo (x z : Nat → BitVec 64) (k : Nat) : Nat → BitVec 64 := fun i => if i < k then z i else x i
theorem mapTo_zero (x z : Nat → BitVec 64) : mapTo x z 0 = x := by funext i; exact if_neg (Nat.not_lt_zero i)
theorem mapTo_self (x z : Nat → BitVec 64) (k : Nat) : mapTo x z k k = x k := if_neg (Nat.lt_irrefl k)
theorem mapTo_step (x z : Nat → BitVec 64) (k : Nat) : upd (mapTo x z k) k (z k) = mapTo x z (k + 1) := by
  funext i
  unfold upd mapTo
  by_cases h : i = k
  · subst h; rw [if_pos rfl, if_pos (by omega)]
  · rw [if_neg h]
    by_cases h2 : i < k
    · rw [if_pos h2, if_pos (by omega)]
    · rw [if_neg h2, if_neg (by omega)]
theorem cU_mapTo (m : Nat) (x z : Nat → BitVec 64) : cU m (mapTo x z m) = cU m z := cU_congr fun _ hi => if_pos hi
theorem cU_feCarry {x y : Nat → BitVec 64} (h : ∀ i, i < 5 → x i = y i) : cU 5 (feCarry x) = cU 5 (feCarry y) := cU_congr fun i hi => by
  unfold feCarry
  by_cases h0 : i = 0
  · rw [if_pos h0, if_pos h0, h 0 (by decide), h 4 (by decide)]
  · rw [if_neg h0, if_neg h0, h i hi, h (i - 1) (by omega)]

theorem mapTo_one (x z : Nat → BitVec 64) : mapTo x z 1 = upd x 0 (z 0) := by
  rw [← mapTo_step x z 0, mapTo_zero]
theorem sub_step1 (x : Nat → BitVec 64) (k : Nat) (hk : 1 ≤ k) : upd (mapTo x (fun i => x i + subP i) k) k (mapTo x (fun i => x i + subP i) k k + 4503599627370494#64) = mapTo x (fun i => x i + subP i) (k + 1) := by
  have h : subP k = 4503599627370494#64 := if_neg (by omega)
  rw [mapTo_self, ← h]
  exact mapTo_step x (fun i => x i + subP i) k
/-- The products of limb i with the first j limbs, added in. -/
def rowG (x y : Nat → BitVec 64) (i : Nat) : Nat → (Nat → BitVec 64) → Nat → BitVec 64
  | 0, f => f
  | j + 1, f => if i + j < 5 then addG (rowG x y i j f) (2 * (i + j)) (x i) (y j) else addG (rowG x y i j f) (2 * (i + j - 5)) (x i * 19#64) (y j)
def mulG (x y : Nat → BitVec 64) : Nat → Nat → BitVec 64
  | 0 => fun _ => 0
  | i + 1 => rowG x y i 5 (mulG x y i)
theorem rowG_lo (x y : Nat → BitVec 64) (i j : Nat) (f : Nat → BitVec 64) (h : i + j < 5) : rowG x y i (j + 1) f = addG (rowG x y i j f) (2 * (i + j)) (x i) (y j) := if_pos h
theorem rowG_hi (x y : Nat → BitVec 64) (i j : Nat) (f : Nat → BitVec 64) (h : ¬ i + j < 5) : rowG x y i (j + 1) f = addG (rowG x y i j f) (2 * (i + j - 5)) (x i * 19#64) (y j) := if_neg h
theorem rowG_in {x y : Nat → BitVec 64} (hx : Ok x) (hy : Ok y) {i : Nat} (hi : i < 5) {f : Nat → BitVec 64} (h : MulIn x y i 0 f) : ∀ j, j ≤ 5 → MulIn x y i j (rowG x y i j f) := by
  intro j
  induction j with
  | zero => intro _; exact h
  | succ j ih =>
    intro hj
    by_cases hij : i + j < 5
    · rw [rowG_lo _ _ _ _ _ hij]; exact (ih (by omega)).step hx hy hi (by omega) hij
    · rw [rowG_hi _ _ _ _ _ hij]; exact (ih (by omega)).stepF hx hy hi (by omega) hij
theorem mulG_in {x y : Nat → BitVec 64} (hx : Ok x) (hy : Ok y) : ∀ i, i ≤ 5 → MulIn x y i 0 (mulG x y i) := by
  intro i
  induction i with
  | zero => intro _; exact MulIn.start x y
  | succ i ih => intro hi; exact (rowG_in hx hy (by omega) (ih (by omega)) 5 (by omega)).next (by omega)
def feMul (x y : Nat → BitVec 64) : Nat → BitVec 64 := feCarry (outAll (mulG x y 5))
theorem mul_law {x y : Nat → BitVec 64} (hx : Ok x) (hy : Ok y) : Ok (feMul x y) ∧ val (feMul x y) % pP = (val x * val y) % pP := feMul_ok (mulG_in hx hy 5 (by decide))
def outK (f : Nat → BitVec 64) (k : Nat) : Nat → BitVec 64 := if k < 5 then outTo f k else outAll f
theorem outK_lt (f : Nat → BitVec 64) (k : Nat) (h : k < 5) : outK f k = outTo f k := if_pos h
theorem outK_five (f : Nat → BitVec 64) : outK f 5 = outAll f := if_neg (by decide)
theorem outK_zero (f : Nat → BitVec 64) : outK f 0 = fun _ => 0 := outTo_zero f
theorem zero_ok : Ok (fun _ => 0) := fun _ _ => Nat.zero_le _
theorem zero_val : val (fun _ => 0) = 0 := by decide
theorem val_lt255 (x : Nat → BitVec 64) : val x % pP < 2 ^ 255 := by
  have := Nat.mod_lt (val x) pP_pos
  have := pP_eq
  omega
theorem byt_zero : byt 0 = fun _ => 0 := by funext i; unfold byt; rw [Nat.zero_div]; rfl
theorem small_cells (n : BitVec 64) : cU 5 (lst 0 [n &&& 2251799813685247#64, n >>> 51]) = cU 5 (limb51 n.toNat) := cU_congr fun i hi => by
  have hn := n.isLt
  apply BitVec.eq_of_toNat_eq
  rw [limb51_toNat]
  obtain rfl | rfl | rfl | rfl | rfl : i = 0 ∨ i = 1 ∨ i = 2 ∨ i = 3 ∨ i = 4 := by omega
  · show (n &&& 2251799813685247#64).toNat = _
    rw [and_mask]; omega
  · show (n >>> 51).toNat = _
    rw [shr51]; omega
  · show (0 : BitVec 64).toNat = _
    rw [Nat.div_eq_of_lt (Nat.lt_of_lt_of_le hn (by decide))]; rfl
  · show (0 : BitVec 64).toNat = _
    rw [Nat.div_eq_of_lt (Nat.lt_of_lt_of_le hn (by decide))]; rfl
  · show (0 : BitVec 64).toNat = _
    rw [Nat.div_eq_of_lt (Nat.lt_of_lt_of_le hn (by decide))]; rfl

theorem val_lt256 (x : Nat → BitVec 64) : val x % pP < 2 ^ (8 * 32) := Nat.lt_trans (val_lt255 x) (by decide)
theorem eqR_byt {m n : Nat} (hm : m < 2 ^ (8 * 32)) (hn : n < 2 ^ (8 * 32)) : eqR 32 (byt m) (byt n) = decide (m = n) := by
  by_cases h : m = n
  · rw [decide_eq_true h]; exact eqR_true fun i _ => by rw [h]
  · rw [decide_eq_false h]
    cases hb : eqR 32 (byt m) (byt n) with
    | false => rfl
    | true => exact absurd (byt_inj hm hn (eqR_iff.1 hb)) h
theorem odd_byt (n : Nat) : decide (byt n 0 &&& 1#8 = 1#8) = decide (n % 2 = 1) := by
  apply decide_eq_decide.2
  have h : (byt n 0 &&& 1#8).toNat = n % 2 := by
    rw [BitVec.toNat_and, byt_toNat]
    show (n / 2 ^ (8 * 0) % 2 ^ 8) &&& (2 ^ 1 - 1) = n % 2
    rw [Nat.and_two_pow_sub_one_eq_mod, Nat.mul_zero, Nat.pow_zero, Nat.div_one]; omega
  constructor
  · intro h1; rw [← h, h1]; rfl
  · intro h1; apply BitVec.eq_of_toNat_eq; rw [h, h1]; rfl
theorem clear_top (b : BitVec 8) : (b &&& ~~~128#8).toNat = b.toNat % 128 := by
  rw [show (~~~128#8 : BitVec 8) = 127#8 from rfl, BitVec.toNat_and]
  exact Nat.and_two_pow_sub_one_eq_mod _ 7
theorem top_nat (n b W : Nat) (h : n < W) : (n + b * W) % (128 * W) = n + b % 128 * W := by
  have h1 : n + b * W = n + b % 128 * W + 128 * W * (b / 128) := by
    conv => lhs; rw [← Nat.div_add_mod b 128]
    rw [Nat.add_mul, Nat.mul_right_comm 128 W]; omega
  rw [h1, Nat.add_mul_mod_self_left]
  apply Nat.mod_eq_of_lt
  have h2 : b % 128 * W ≤ 127 * W := Nat.mul_le_mul_right W (by omega)
  omega
theorem natB_clear (f : Nat → BitVec 8) : natB (upd f 31 (f 31 &&& ~~~128#8)) 32 = natB f 32 % 2 ^ 255 := by
  have h1 : natB (upd f 31 (f 31 &&& ~~~128#8)) 32 = natB (upd f 31 (f 31 &&& ~~~128#8)) 31 + (upd f 31 (f 31 &&& ~~~128#8) 31).toNat * 2 ^ (8 * 31) := rfl
  have h2 : natB f 32 = natB f 31 + (f 31).toNat * 2 ^ (8 * 31) := rfl
  have h3 : natB (upd f 31 (f 31 &&& ~~~128#8)) 31 = natB f 31 := natB_congr fun i hi => upd_ne _ _ (by omega)
  rw [h1, h3, upd_self, clear_top, h2]
  exact (top_nat _ _ _ (natB_lt f 31)).symm
theorem canon_eqR (f : Nat → BitVec 8) : eqR 32 (byt (val (limb51 (natB (upd f 31 (f 31 &&& ~~~128#8)) 32)) % pP)) (upd f 31 (f 31 &&& ~~~128#8)) = decide (natB f 32 % 2 ^ 255 < pP) := by
  have hg := natB_clear f
  generalize upd f 31 (f 31 &&& ~~~128#8) = h at hg ⊢
  have hl : natB f 32 % 2 ^ 255 < 2 ^ 255 := Nat.mod_lt _ (by decide)
  rw [limb51_val, hg, Nat.mod_mod]
  have hb : ∀ i, i < 32 → h i = byt (natB f 32 % 2 ^ 255) i := fun i hi => by rw [← hg, byt_natB h 32 i hi]
  have he : eqR 32 (byt (natB f 32 % 2 ^ 255 % pP)) h = eqR 32 (byt (natB f 32 % 2 ^ 255 % pP)) (byt (natB f 32 % 2 ^ 255)) := by
    rw [Bool.eq_iff_iff, eqR_iff, eqR_iff]
    exact ⟨fun q i hi => (q i hi).trans (hb i hi), fun q i hi => (q i hi).trans (hb i hi).symm⟩
  generalize natB f 32 % 2 ^ 255 = T at hl he ⊢
  rw [he, eqR_byt (Nat.lt_of_le_of_lt (Nat.mod_le _ _) (Nat.lt_trans hl (by decide))) (Nat.lt_trans hl (by decide))]
  apply decide_eq_decide.2
  constructor
  · intro h1; rw [← h1]; exact Nat.mod_lt _ pP_pos
  · exact Nat.mod_eq_of_lt

variable {P : Program} {Q : Exit → Act → World → Prop} {a : Act} {w w0 : World} {n : Nat} {E : Nat → Option Value} {L : List Blk} {ops : Array Oper} {rest : List Oper}
variable {dst : Option Nat} {ty : TypeId} {pos : String} {af : Array Edge} {g : Option (Nat × Bool)}

/-- the address of a field that lies k cells on -/
theorem r_fieldA {t : TypeId} {x : Operand} {b off f s k : Nat} {fields : Array Field} {fd : Field} (hS : Slots a n E) (hx : ev E x = some (ptr b off)) (hT : P.underlying t = some (.struct fields)) (hf : fields[f]? = some fd)
    (hs : (P.info? fd.type).map (·.size) = some (s + 1)) (hk : fd.offset = k) : Run P a ⟨dst, .fieldAddr t x f, ty, pos, af, g⟩ w (ptr b (off + k)) := by
  subst hk; exact r_fieldAddr hS hx hT hf hs
theorem r_field0 {t : TypeId} {x : Operand} {b f s k : Nat} {fields : Array Field} {fd : Field} (hS : Slots a n E) (hx : ev E x = some (ptr b 0)) (hT : P.underlying t = some (.struct fields)) (hf : fields[f]? = some fd)
    (hs : (P.info? fd.type).map (·.size) = some (s + 1)) (hk : fd.offset = k) : Run P a ⟨dst, .fieldAddr t x f, ty, pos, af, g⟩ w (ptr b k) := by
  have := r_fieldA (P := P) (w := w) (dst := dst) (ty := ty) (pos := pos) (af := af) (g := g) hS hx hT hf hs hk
  rwa [Nat.zero_add] at this
theorem r_fieldZ {t : TypeId} {x : Operand} {b off f s : Nat} {fields : Array Field} {fd : Field} (hS : Slots a n E) (hx : ev E x = some (ptr b off)) (hT : P.underlying t = some (.struct fields)) (hf : fields[f]? = some fd)
    (hs : (P.info? fd.type).map (·.size) = some (s + 1)) (hk : fd.offset = 0) : Run P a ⟨dst, .fieldAddr t x f, ty, pos, af, g⟩ w (ptr b off) := r_fieldA (P := P) (w := w) (dst := dst) (ty := ty) (pos := pos) (af := af) (g := g) hS hx hT hf hs hk
/-- the address of an element that has s cells -/
theorem r_index0z {t el : TypeId} {x y : Operand} {b len i s : Nat} {k : IntKind} (hS : Slots a n E) (hx : ev E x = some (ptr b 0)) (hy : ev E y = some (.int k (i : Int))) (hT : P.underlying t = some (.array len el))
    (hs : (P.info? el).map (·.size) = some s) (hi : i < len) : Run P a ⟨dst, .indexAddr t x y, ty, pos, af, g⟩ w (ptr b (s * i)) := by
  have := r_indexA (P := P) (w := w) (dst := dst) (ty := ty) (pos := pos) (af := af) (g := g) hS hx hy hT hs hi
  rwa [Nat.zero_add, Nat.mul_comm] at this
theorem cells_cut {m p s : Nat} {f : Nat → Value} (h : p + s ≤ m) : List.take s (List.drop p (cells m f)) = cells s (fun i => f (p + i)) := by
  apply List.ext_getElem
  · simp [cells]; omega
  · intro i h1 h2
    simp [cells]
/-- an element that is a struct, of an array that is a value -/
theorem r_indexE {t el : TypeId} {x y : Operand} {m len i s : Nat} {k : IntKind} {f : Nat → Value} {d : TypeDesc} (hS : Slots a n E) (hx : ev E x = some (.agg (cells m f).toArray)) (hy : ev E y = some (.int k (i : Int))) (hT : P.underlying t = some (.array len el))
    (hs : (P.info? el).map (·.size) = some s) (he : P.underlying el = some d) (hd : aggB d = true) (hi : i < len) (hv : s * i + s ≤ m) : Run P a ⟨dst, .index t x y, ty, pos, af, g⟩ w (.agg (cells s (fun q => f (s * i + q))).toArray) := by
  have hv' : i * s + s ≤ m := by rw [Nat.mul_comm]; exact hv
  have := cells_cut (f := f) hv'
  rw [Nat.mul_comm s i]
  simp [Run, execOp, hS.eval hx, hS.eval hy, Instr.index, run_underlying hT, asIntOf, hi, run_sizeOf hs, part, run_isAgg he, hd, this]
end Go.Sym
