/-
  The laws of the operations on numbers: what the model says of two numbers of one kind, said in machine words (U: uint64, W: uint32, B: uint8, I: int64) or in exact numbers (N, and whole numbers, of type int).
-/
import Derived.Test.YtbfiaoemoookcaaDoorSym
namespace Go.Sym
open Go Go.RowKit

theorem ofInt_add {w : Nat} (x y : Int) : BitVec.ofInt w (x + y) = BitVec.ofInt w x + BitVec.ofInt w y := BitVec.ofInt_add ..
theorem ofInt_mul {w : Nat} (x y : Int) : BitVec.ofInt w (x * y) = BitVec.ofInt w x * BitVec.ofInt w y := BitVec.ofInt_mul ..
theorem ofInt_neg {w : Nat} (x : Int) : BitVec.ofInt w (-x) = -BitVec.ofInt w x := BitVec.ofInt_neg
theorem ofInt_sub {w : Nat} (x y : Int) : BitVec.ofInt w (x - y) = BitVec.ofInt w x - BitVec.ofInt w y := by
  rw [Int.sub_eq_add_neg, ofInt_add, ofInt_neg, BitVec.sub_eq_add_neg]

theorem shl_big {w : Nat} (x : BitVec w) (m : Nat) (h : w ≤ m) : x <<< m = 0#w := BitVec.shiftLeft_eq_zero h
theorem ofInt_mul_pow {w : Nat} (x : BitVec w) (m : Nat) : BitVec.ofInt w ((x.toNat : Int) * 2 ^ m) = x <<< m := by
  have h : ((x.toNat : Int) * 2 ^ m) = ((x.toNat * 2 ^ m : Nat) : Int) := by simp
  rw [h, BitVec.ofInt_natCast]
  apply BitVec.eq_of_toNat_eq
  simp [Nat.shiftLeft_eq]
theorem ofInt_mul_pow_int {w : Nat} (x : BitVec w) (m : Nat) : BitVec.ofInt w (x.toInt * 2 ^ m) = x <<< m := by
  rw [ofInt_mul, ofInt_int, BitVec.shiftLeft_eq_mul_twoPow]
  congr 1
  have h : ((2 : Int) ^ m) = ((2 ^ m : Nat) : Int) := by simp
  rw [h, BitVec.ofInt_natCast]
  apply BitVec.eq_of_toNat_eq
  simp
theorem shl_min {w : Nat} (x : BitVec w) (m : Nat) : x <<< (min m w) = x <<< m := by
  rcases Nat.le_total m w with h | h
  · rw [Nat.min_eq_left h]
  · rw [Nat.min_eq_right h, shl_big x w (Nat.le_refl _), shl_big x m h]
theorem shr_min {w : Nat} (x : BitVec w) (m : Nat) : x.toNat / 2 ^ (min m w) = (x >>> m).toNat := by
  rw [BitVec.toNat_ushiftRight, Nat.shiftRight_eq_div_pow]
  rcases Nat.le_total m w with h | h
  · rw [Nat.min_eq_left h]
  · rw [Nat.min_eq_right h, Nat.div_eq_of_lt x.isLt, Nat.div_eq_of_lt (Nat.lt_of_lt_of_le x.isLt (Nat.pow_le_pow_right (by omega) h))]
theorem fdiv_pow_nat (x m : Nat) : (x : Int).fdiv (2 ^ m) = ((x / 2 ^ m : Nat) : Int) := by
  rw [Int.fdiv_eq_ediv_of_nonneg _ (by exact Int.le_of_lt (Int.pow_pos (by decide)))]
  simp
theorem div_neg_big (x d : Int) (hd : 0 < d) (hn : x < 0) (hb : -d ≤ x) : x / d = -1 := by
  have h1 : x / d < 0 := Int.ediv_neg_of_neg_of_pos hn hd
  have h2 : -1 ≤ x / d := by
    rw [Int.le_ediv_iff_mul_le hd]
    omega
  omega
theorem sshr_min {w : Nat} (x : BitVec w) (m : Nat) : x.toInt.fdiv (2 ^ (min m w)) = (x.sshiftRight m).toInt := by
  rw [Int.fdiv_eq_ediv_of_nonneg _ (by exact Int.le_of_lt (Int.pow_pos (by decide))), BitVec.toInt_sshiftRight, Int.shiftRight_eq_div_pow]
  rcases Nat.le_total m w with h | h
  · rw [Nat.min_eq_left h]
    simp
  · rw [Nat.min_eq_right h]
    have hb : -(2 : Int) ^ w ≤ x.toInt ∧ x.toInt < 2 ^ w := by
      have h1 := @BitVec.le_two_mul_toInt w x
      have h2 := @BitVec.two_mul_toInt_lt w x
      have h3 : (0 : Int) < 2 ^ w := Int.pow_pos (by decide)
      omega
    have hm : (2 : Int) ^ w ≤ ((2 ^ m : Nat) : Int) := by
      have := Nat.pow_le_pow_right (n := 2) (by omega) h
      have h2 : ((2 : Int) ^ w) = ((2 ^ w : Nat) : Int) := by simp
      rw [h2]
      omega
    have h3 : (0 : Int) < 2 ^ w := Int.pow_pos (by decide)
    by_cases hn : x.toInt < 0
    · rw [div_neg_big _ _ h3 hn hb.1, div_neg_big _ _ (by omega) hn (by omega)]
    · rw [Int.ediv_eq_zero_of_lt (by omega) hb.2, Int.ediv_eq_zero_of_lt (by omega) (by omega)]

theorem b_addU (t : TypeId) (x y : BitVec 64) : binOp .add t (U x) (U y) = pure (U (x + y)) := by
  unfold U
  rw [binOp_add]
  unfold Op.intArith
  simp only
  rw [wrapU, ofInt_add, ofInt_nat, ofInt_nat]
theorem b_subU (t : TypeId) (x y : BitVec 64) : binOp .sub t (U x) (U y) = pure (U (x - y)) := by
  unfold U
  rw [binOp_sub]
  unfold Op.intArith
  simp only
  rw [wrapU, ofInt_sub, ofInt_nat, ofInt_nat]
theorem b_mulU (t : TypeId) (x y : BitVec 64) : binOp .mul t (U x) (U y) = pure (U (x * y)) := by
  unfold U
  rw [binOp_mul]
  unfold Op.intArith
  simp only
  rw [wrapU, ofInt_mul, ofInt_nat, ofInt_nat]
theorem b_andU (t : TypeId) (x y : BitVec 64) : binOp .and t (U x) (U y) = pure (U (x &&& y)) := by
  unfold U
  rw [binOp_and]
  show (pure (Value.int .u64 (IntKind.u64.wrap ((BitVec.ofInt 64 _ &&& BitVec.ofInt 64 _).toNat : Int))) : Sem Value) = _
  rw [wrapU, ofInt_nat, ofInt_nat, ofInt_nat]
theorem b_orU (t : TypeId) (x y : BitVec 64) : binOp .or t (U x) (U y) = pure (U (x ||| y)) := by
  unfold U
  rw [binOp_or]
  show (pure (Value.int .u64 (IntKind.u64.wrap ((BitVec.ofInt 64 _ ||| BitVec.ofInt 64 _).toNat : Int))) : Sem Value) = _
  rw [wrapU, ofInt_nat, ofInt_nat, ofInt_nat]
theorem b_xorU (t : TypeId) (x y : BitVec 64) : binOp .xor t (U x) (U y) = pure (U (x ^^^ y)) := by
  unfold U
  rw [binOp_xor]
  show (pure (Value.int .u64 (IntKind.u64.wrap ((BitVec.ofInt 64 _ ^^^ BitVec.ofInt 64 _).toNat : Int))) : Sem Value) = _
  rw [wrapU, ofInt_nat, ofInt_nat, ofInt_nat]
theorem b_andNotU (t : TypeId) (x y : BitVec 64) : binOp .andNot t (U x) (U y) = pure (U (x &&& ~~~y)) := by
  unfold U
  rw [binOp_andNot]
  show (pure (Value.int .u64 (IntKind.u64.wrap ((BitVec.ofInt 64 _ &&& ~~~BitVec.ofInt 64 _).toNat : Int))) : Sem Value) = _
  rw [wrapU, ofInt_nat, ofInt_nat, ofInt_nat]
theorem b_shlU (t : TypeId) (x : BitVec 64) (yk : IntKind) (m : Nat) : binOp .shl t (U x) (.int yk (m : Int)) = pure (U (x <<< m)) := by
  unfold U
  rw [binOp_shl]
  unfold Op.shift
  rw [if_neg (show ¬ ((m : Int) < 0) by omega)]
  simp only [Int.toNat_natCast]
  rw [wrapU, ofInt_mul_pow, show x <<< (min m IntKind.u64.bits) = x <<< m from shl_min x m]
theorem b_shrU (t : TypeId) (x : BitVec 64) (yk : IntKind) (m : Nat) : binOp .shr t (U x) (.int yk (m : Int)) = pure (U (x >>> m)) := by
  unfold U
  rw [binOp_shr]
  unfold Op.shift
  rw [if_neg (show ¬ ((m : Int) < 0) by omega)]
  simp only [Int.toNat_natCast]
  rw [fdiv_pow_nat, show x.toNat / 2 ^ (min m IntKind.u64.bits) = (x >>> m).toNat from shr_min x m]
theorem b_eqlU (t : TypeId) (x y : BitVec 64) : binOp .eql t (U x) (U y) = pure (.bool (decide (x = y))) := by
  unfold U
  rw [binOp_eql]
  congr 2
  exact decide_eq_decide.2 (by rw [← BitVec.toNat_inj]; omega)
theorem b_neqU (t : TypeId) (x y : BitVec 64) : binOp .neq t (U x) (U y) = pure (.bool (!decide (x = y))) := by
  unfold U
  rw [binOp_neq]
  exact congrArg (fun b => (pure (Value.bool (!b)) : Sem Value)) (decide_eq_decide.2 (by rw [← BitVec.toNat_inj]; omega))
theorem b_lssU (t : TypeId) (x y : BitVec 64) : binOp .lss t (U x) (U y) = pure (.bool (decide (x.toNat < y.toNat))) := by
  unfold U
  rw [binOp_lss]
  congr 2
  exact decide_eq_decide.2 (by omega)
theorem b_leqU (t : TypeId) (x y : BitVec 64) : binOp .leq t (U x) (U y) = pure (.bool (decide (x.toNat ≤ y.toNat))) := by
  unfold U
  rw [binOp_leq]
  congr 2
  exact decide_eq_decide.2 (by omega)
theorem b_gtrU (t : TypeId) (x y : BitVec 64) : binOp .gtr t (U x) (U y) = pure (.bool (decide (y.toNat < x.toNat))) := by
  unfold U
  rw [binOp_gtr]
  congr 2
  exact decide_eq_decide.2 (by omega)
theorem b_geqU (t : TypeId) (x y : BitVec 64) : binOp .geq t (U x) (U y) = pure (.bool (decide (y.toNat ≤ x.toNat))) := by
  unfold U
  rw [binOp_geq]
  congr 2
  exact decide_eq_decide.2 (by omega)
theorem b_quoU (t : TypeId) (x y : BitVec 64) (h : y ≠ 0#64) : binOp .quo t (U x) (U y) = pure (U (x / y)) := by
  have h0 : y.toNat ≠ 0 := fun e => h (BitVec.eq_of_toNat_eq (by simpa using e))
  unfold U
  rw [binOp_quo]
  unfold Op.intDiv
  rw [if_neg (show ¬ ((y.toNat : Int) = 0) by omega)]
  simp only
  rw [wrapU, BitVec.toNat_udiv]
  rw [show (x.toNat : Int).tdiv (y.toNat : Int) = ((x.toNat / y.toNat : Nat) : Int) by rw [Int.tdiv_eq_ediv_of_nonneg (by omega)]; simp]
  rw [BitVec.ofInt_natCast, BitVec.toNat_ofNat, Nat.mod_eq_of_lt]
  exact Nat.lt_of_le_of_lt (Nat.div_le_self _ _) x.isLt
theorem b_remU (t : TypeId) (x y : BitVec 64) (h : y ≠ 0#64) : binOp .rem t (U x) (U y) = pure (U (x % y)) := by
  have h0 : y.toNat ≠ 0 := fun e => h (BitVec.eq_of_toNat_eq (by simpa using e))
  unfold U
  rw [binOp_rem]
  unfold Op.intDiv
  rw [if_neg (show ¬ ((y.toNat : Int) = 0) by omega)]
  simp only
  rw [BitVec.toNat_umod]
  rw [show (x.toNat : Int).tmod (y.toNat : Int) = ((x.toNat % y.toNat : Nat) : Int) by rw [Int.tmod_eq_emod_of_nonneg (by omega)]; simp]

theorem b_addW (t : TypeId) (x y : BitVec 32) : binOp .add t (W x) (W y) = pure (W (x + y)) := by
  unfold W
  rw [binOp_add]
  unfold Op.intArith
  simp only
  rw [wrapW, ofInt_add, ofInt_nat, ofInt_nat]
theorem b_subW (t : TypeId) (x y : BitVec 32) : binOp .sub t (W x) (W y) = pure (W (x - y)) := by
  unfold W
  rw [binOp_sub]
  unfold Op.intArith
  simp only
  rw [wrapW, ofInt_sub, ofInt_nat, ofInt_nat]
theorem b_mulW (t : TypeId) (x y : BitVec 32) : binOp .mul t (W x) (W y) = pure (W (x * y)) := by
  unfold W
  rw [binOp_mul]
  unfold Op.intArith
  simp only
  rw [wrapW, ofInt_mul, ofInt_nat, ofInt_nat]
theorem b_andW (t : TypeId) (x y : BitVec 32) : binOp .and t (W x) (W y) = pure (W (x &&& y)) := by
  unfold W
  rw [binOp_and]
  show (pure (Value.int .u32 (IntKind.u32.wrap ((BitVec.ofInt 32 _ &&& BitVec.ofInt 32 _).toNat : Int))) : Sem Value) = _
  rw [wrapW, ofInt_nat, ofInt_nat, ofInt_nat]
theorem b_orW (t : TypeId) (x y : BitVec 32) : binOp .or t (W x) (W y) = pure (W (x ||| y)) := by
  unfold W
  rw [binOp_or]
  show (pure (Value.int .u32 (IntKind.u32.wrap ((BitVec.ofInt 32 _ ||| BitVec.ofInt 32 _).toNat : Int))) : Sem Value) = _
  rw [wrapW, ofInt_nat, ofInt_nat, ofInt_nat]
theorem b_xorW (t : TypeId) (x y : BitVec 32) : binOp .xor t (W x) (W y) = pure (W (x ^^^ y)) := by
  unfold W
  rw [binOp_xor]
  show (pure (Value.int .u32 (IntKind.u32.wrap ((BitVec.ofInt 32 _ ^^^ BitVec.ofInt 32 _).toNat : Int))) : Sem Value) = _
  rw [wrapW, ofInt_nat, ofInt_nat, ofInt_nat]
theorem b_andNotW (t : TypeId) (x y : BitVec 32) : binOp .andNot t (W x) (W y) = pure (W (x &&& ~~~y)) := by
  unfold W
  rw [binOp_andNot]
  show (pure (Value.int .u32 (IntKind.u32.wrap ((BitVec.ofInt 32 _ &&& ~~~BitVec.ofInt 32 _).toNat : Int))) : Sem Value) = _
  rw [wrapW, ofInt_nat, ofInt_nat, ofInt_nat]
theorem b_shlW (t : TypeId) (x : BitVec 32) (yk : IntKind) (m : Nat) : binOp .shl t (W x) (.int yk (m : Int)) = pure (W (x <<< m)) := by
  unfold W
  rw [binOp_shl]
  unfold Op.shift
  rw [if_neg (show ¬ ((m : Int) < 0) by omega)]
  simp only [Int.toNat_natCast]
  rw [wrapW, ofInt_mul_pow, show x <<< (min m IntKind.u32.bits) = x <<< m from shl_min x m]
theorem b_shrW (t : TypeId) (x : BitVec 32) (yk : IntKind) (m : Nat) : binOp .shr t (W x) (.int yk (m : Int)) = pure (W (x >>> m)) := by
  unfold W
  rw [binOp_shr]
  unfold Op.shift
  rw [if_neg (show ¬ ((m : Int) < 0) by omega)]
  simp only [Int.toNat_natCast]
  rw [fdiv_pow_nat, show x.toNat / 2 ^ (min m IntKind.u32.bits) = (x >>> m).toNat from shr_min x m]
theorem b_eqlW (t : TypeId) (x y : BitVec 32) : binOp .eql t (W x) (W y) = pure (.bool (decide (x = y))) := by
  unfold W
  rw [binOp_eql]
  congr 2
  exact decide_eq_decide.2 (by rw [← BitVec.toNat_inj]; omega)
theorem b_neqW (t : TypeId) (x y : BitVec 32) : binOp .neq t (W x) (W y) = pure (.bool (!decide (x = y))) := by
  unfold W
  rw [binOp_neq]
  exact congrArg (fun b => (pure (Value.bool (!b)) : Sem Value)) (decide_eq_decide.2 (by rw [← BitVec.toNat_inj]; omega))
theorem b_lssW (t : TypeId) (x y : BitVec 32) : binOp .lss t (W x) (W y) = pure (.bool (decide (x.toNat < y.toNat))) := by
  unfold W
  rw [binOp_lss]
  congr 2
  exact decide_eq_decide.2 (by omega)
theorem b_leqW (t : TypeId) (x y : BitVec 32) : binOp .leq t (W x) (W y) = pure (.bool (decide (x.toNat ≤ y.toNat))) := by
  unfold W
  rw [binOp_leq]
  congr 2
  exact decide_eq_decide.2 (by omega)
theorem b_gtrW (t : TypeId) (x y : BitVec 32) : binOp .gtr t (W x) (W y) = pure (.bool (decide (y.toNat < x.toNat))) := by
  unfold W
  rw [binOp_gtr]
  congr 2
  exact decide_eq_decide.2 (by omega)
theorem b_geqW (t : TypeId) (x y : BitVec 32) : binOp .geq t (W x) (W y) = pure (.bool (decide (y.toNat ≤ x.toNat))) := by
  unfold W
  rw [binOp_geq]
  congr 2
  exact decide_eq_decide.2 (by omega)
theorem b_quoW (t : TypeId) (x y : BitVec 32) (h : y ≠ 0#32) : binOp .quo t (W x) (W y) = pure (W (x / y)) := by
  have h0 : y.toNat ≠ 0 := fun e => h (BitVec.eq_of_toNat_eq (by simpa using e))
  unfold W
  rw [binOp_quo]
  unfold Op.intDiv
  rw [if_neg (show ¬ ((y.toNat : Int) = 0) by omega)]
  simp only
  rw [wrapW, BitVec.toNat_udiv]
  rw [show (x.toNat : Int).tdiv (y.toNat : Int) = ((x.toNat / y.toNat : Nat) : Int) by rw [Int.tdiv_eq_ediv_of_nonneg (by omega)]; simp]
  rw [BitVec.ofInt_natCast, BitVec.toNat_ofNat, Nat.mod_eq_of_lt]
  exact Nat.lt_of_le_of_lt (Nat.div_le_self _ _) x.isLt
theorem b_remW (t : TypeId) (x y : BitVec 32) (h : y ≠ 0#32) : binOp .rem t (W x) (W y) = pure (W (x % y)) := by
  have h0 : y.toNat ≠ 0 := fun e => h (BitVec.eq_of_toNat_eq (by simpa using e))
  unfold W
  rw [binOp_rem]
  unfold Op.intDiv
  rw [if_neg (show ¬ ((y.toNat : Int) = 0) by omega)]
  simp only
  rw [BitVec.toNat_umod]
  rw [show (x.toNat : Int).tmod (y.toNat : Int) = ((x.toNat % y.toNat : Nat) : Int) by rw [Int.tmod_eq_emod_of_nonneg (by omega)]; simp]

theorem b_addB (t : TypeId) (x y : BitVec 8) : binOp .add t (B x) (B y) = pure (B (x + y)) := by
  unfold B
  rw [binOp_add]
  unfold Op.intArith
  simp only
  rw [wrapB, ofInt_add, ofInt_nat, ofInt_nat]
theorem b_subB (t : TypeId) (x y : BitVec 8) : binOp .sub t (B x) (B y) = pure (B (x - y)) := by
  unfold B
  rw [binOp_sub]
  unfold Op.intArith
  simp only
  rw [wrapB, ofInt_sub, ofInt_nat, ofInt_nat]
theorem b_mulB (t : TypeId) (x y : BitVec 8) : binOp .mul t (B x) (B y) = pure (B (x * y)) := by
  unfold B
  rw [binOp_mul]
  unfold Op.intArith
  simp only
  rw [wrapB, ofInt_mul, ofInt_nat, ofInt_nat]
theorem b_andB (t : TypeId) (x y : BitVec 8) : binOp .and t (B x) (B y) = pure (B (x &&& y)) := by
  unfold B
  rw [binOp_and]
  show (pure (Value.int .u8 (IntKind.u8.wrap ((BitVec.ofInt 8 _ &&& BitVec.ofInt 8 _).toNat : Int))) : Sem Value) = _
  rw [wrapB, ofInt_nat, ofInt_nat, ofInt_nat]
theorem b_orB (t : TypeId) (x y : BitVec 8) : binOp .or t (B x) (B y) = pure (B (x ||| y)) := by
  unfold B
  rw [binOp_or]
  show (pure (Value.int .u8 (IntKind.u8.wrap ((BitVec.ofInt 8 _ ||| BitVec.ofInt 8 _).toNat : Int))) : Sem Value) = _
  rw [wrapB, ofInt_nat, ofInt_nat, ofInt_nat]
theorem b_xorB (t : TypeId) (x y : BitVec 8) : binOp .xor t (B x) (B y) = pure (B (x ^^^ y)) := by
  unfold B
  rw [binOp_xor]
  show (pure (Value.int .u8 (IntKind.u8.wrap ((BitVec.ofInt 8 _ ^^^ BitVec.ofInt 8 _).toNat : Int))) : Sem Value) = _
  rw [wrapB, ofInt_nat, ofInt_nat, ofInt_nat]
theorem b_andNotB (t : TypeId) (x y : BitVec 8) : binOp .andNot t (B x) (B y) = pure (B (x &&& ~~~y)) := by
  unfold B
  rw [binOp_andNot]
  show (pure (Value.int .u8 (IntKind.u8.wrap ((BitVec.ofInt 8 _ &&& ~~~BitVec.ofInt 8 _).toNat : Int))) : Sem Value) = _
  rw [wrapB, ofInt_nat, ofInt_nat, ofInt_nat]
theorem b_shlB (t : TypeId) (x : BitVec 8) (yk : IntKind) (m : Nat) : binOp .shl t (B x) (.int yk (m : Int)) = pure (B (x <<< m)) := by
  unfold B
  rw [binOp_shl]
  unfold Op.shift
  rw [if_neg (show ¬ ((m : Int) < 0) by omega)]
  simp only [Int.toNat_natCast]
  rw [wrapB, ofInt_mul_pow, show x <<< (min m IntKind.u8.bits) = x <<< m from shl_min x m]
theorem b_shrB (t : TypeId) (x : BitVec 8) (yk : IntKind) (m : Nat) : binOp .shr t (B x) (.int yk (m : Int)) = pure (B (x >>> m)) := by
  unfold B
  rw [binOp_shr]
  unfold Op.shift
  rw [if_neg (show ¬ ((m : Int) < 0) by omega)]
  simp only [Int.toNat_natCast]
  rw [fdiv_pow_nat, show x.toNat / 2 ^ (min m IntKind.u8.bits) = (x >>> m).toNat from shr_min x m]
theorem b_eqlB (t : TypeId) (x y : BitVec 8) : binOp .eql t (B x) (B y) = pure (.bool (decide (x = y))) := by
  unfold B
  rw [binOp_eql]
  congr 2
  exact decide_eq_decide.2 (by rw [← BitVec.toNat_inj]; omega)
theorem b_neqB (t : TypeId) (x y : BitVec 8) : binOp .neq t (B x) (B y) = pure (.bool (!decide (x = y))) := by
  unfold B
  rw [binOp_neq]
  exact congrArg (fun b => (pure (Value.bool (!b)) : Sem Value)) (decide_eq_decide.2 (by rw [← BitVec.toNat_inj]; omega))
theorem b_lssB (t : TypeId) (x y : BitVec 8) : binOp .lss t (B x) (B y) = pure (.bool (decide (x.toNat < y.toNat))) := by
  unfold B
  rw [binOp_lss]
  congr 2
  exact decide_eq_decide.2 (by omega)
theorem b_leqB (t : TypeId) (x y : BitVec 8) : binOp .leq t (B x) (B y) = pure (.bool (decide (x.toNat ≤ y.toNat))) := by
  unfold B
  rw [binOp_leq]
  congr 2
  exact decide_eq_decide.2 (by omega)
theorem b_gtrB (t : TypeId) (x y : BitVec 8) : binOp .gtr t (B x) (B y) = pure (.bool (decide (y.toNat < x.toNat))) := by
  unfold B
  rw [binOp_gtr]
  congr 2
  exact decide_eq_decide.2 (by omega)
theorem b_geqB (t : TypeId) (x y : BitVec 8) : binOp .geq t (B x) (B y) = pure (.bool (decide (y.toNat ≤ x.toNat))) := by
  unfold B
  rw [binOp_geq]
  congr 2
  exact decide_eq_decide.2 (by omega)
theorem b_quoB (t : TypeId) (x y : BitVec 8) (h : y ≠ 0#8) : binOp .quo t (B x) (B y) = pure (B (x / y)) := by
  have h0 : y.toNat ≠ 0 := fun e => h (BitVec.eq_of_toNat_eq (by simpa using e))
  unfold B
  rw [binOp_quo]
  unfold Op.intDiv
  rw [if_neg (show ¬ ((y.toNat : Int) = 0) by omega)]
  simp only
  rw [wrapB, BitVec.toNat_udiv]
  rw [show (x.toNat : Int).tdiv (y.toNat : Int) = ((x.toNat / y.toNat : Nat) : Int) by rw [Int.tdiv_eq_ediv_of_nonneg (by omega)]; simp]
  rw [BitVec.ofInt_natCast, BitVec.toNat_ofNat, Nat.mod_eq_of_lt]
  exact Nat.lt_of_le_of_lt (Nat.div_le_self _ _) x.isLt
theorem b_remB (t : TypeId) (x y : BitVec 8) (h : y ≠ 0#8) : binOp .rem t (B x) (B y) = pure (B (x % y)) := by
  have h0 : y.toNat ≠ 0 := fun e => h (BitVec.eq_of_toNat_eq (by simpa using e))
  unfold B
  rw [binOp_rem]
  unfold Op.intDiv
  rw [if_neg (show ¬ ((y.toNat : Int) = 0) by omega)]
  simp only
  rw [BitVec.toNat_umod]
  rw [show (x.toNat : Int).tmod (y.toNat : Int) = ((x.toNat % y.toNat : Nat) : Int) by rw [Int.tmod_eq_emod_of_nonneg (by omega)]; simp]

theorem b_addI (t : TypeId) (x y : BitVec 64) : binOp .add t (I x) (I y) = pure (I (x + y)) := by
  unfold I
  rw [binOp_add]
  unfold Op.intArith
  simp only
  rw [wrapI, ofInt_add, ofInt_int, ofInt_int]
theorem b_subI (t : TypeId) (x y : BitVec 64) : binOp .sub t (I x) (I y) = pure (I (x - y)) := by
  unfold I
  rw [binOp_sub]
  unfold Op.intArith
  simp only
  rw [wrapI, ofInt_sub, ofInt_int, ofInt_int]
theorem b_mulI (t : TypeId) (x y : BitVec 64) : binOp .mul t (I x) (I y) = pure (I (x * y)) := by
  unfold I
  rw [binOp_mul]
  unfold Op.intArith
  simp only
  rw [wrapI, ofInt_mul, ofInt_int, ofInt_int]
theorem b_andI (t : TypeId) (x y : BitVec 64) : binOp .and t (I x) (I y) = pure (I (x &&& y)) := by
  unfold I
  rw [binOp_and]
  show (pure (Value.int .i64 (IntKind.i64.wrap ((BitVec.ofInt 64 _ &&& BitVec.ofInt 64 _).toNat : Int))) : Sem Value) = _
  rw [wrapI, ofInt_int, ofInt_int, ofInt_nat]
theorem b_orI (t : TypeId) (x y : BitVec 64) : binOp .or t (I x) (I y) = pure (I (x ||| y)) := by
  unfold I
  rw [binOp_or]
  show (pure (Value.int .i64 (IntKind.i64.wrap ((BitVec.ofInt 64 _ ||| BitVec.ofInt 64 _).toNat : Int))) : Sem Value) = _
  rw [wrapI, ofInt_int, ofInt_int, ofInt_nat]
theorem b_xorI (t : TypeId) (x y : BitVec 64) : binOp .xor t (I x) (I y) = pure (I (x ^^^ y)) := by
  unfold I
  rw [binOp_xor]
  show (pure (Value.int .i64 (IntKind.i64.wrap ((BitVec.ofInt 64 _ ^^^ BitVec.ofInt 64 _).toNat : Int))) : Sem Value) = _
  rw [wrapI, ofInt_int, ofInt_int, ofInt_nat]
theorem b_andNotI (t : TypeId) (x y : BitVec 64) : binOp .andNot t (I x) (I y) = pure (I (x &&& ~~~y)) := by
  unfold I
  rw [binOp_andNot]
  show (pure (Value.int .i64 (IntKind.i64.wrap ((BitVec.ofInt 64 _ &&& ~~~BitVec.ofInt 64 _).toNat : Int))) : Sem Value) = _
  rw [wrapI, ofInt_int, ofInt_int, ofInt_nat]
theorem b_shlI (t : TypeId) (x : BitVec 64) (yk : IntKind) (m : Nat) : binOp .shl t (I x) (.int yk (m : Int)) = pure (I (x <<< m)) := by
  unfold I
  rw [binOp_shl]
  unfold Op.shift
  rw [if_neg (show ¬ ((m : Int) < 0) by omega)]
  simp only [Int.toNat_natCast]
  rw [wrapI, ofInt_mul_pow_int, show x <<< (min m IntKind.i64.bits) = x <<< m from shl_min x m]
theorem b_shrI (t : TypeId) (x : BitVec 64) (yk : IntKind) (m : Nat) : binOp .shr t (I x) (.int yk (m : Int)) = pure (I (x.sshiftRight m)) := by
  unfold I
  rw [binOp_shr]
  unfold Op.shift
  rw [if_neg (show ¬ ((m : Int) < 0) by omega)]
  simp only [Int.toNat_natCast]
  rw [show x.toInt.fdiv (2 ^ (min m IntKind.i64.bits)) = (x.sshiftRight m).toInt from sshr_min x m]
theorem b_eqlI (t : TypeId) (x y : BitVec 64) : binOp .eql t (I x) (I y) = pure (.bool (decide (x = y))) := by
  unfold I
  rw [binOp_eql]
  congr 2
  exact decide_eq_decide.2 BitVec.toInt_inj
theorem b_neqI (t : TypeId) (x y : BitVec 64) : binOp .neq t (I x) (I y) = pure (.bool (!decide (x = y))) := by
  unfold I
  rw [binOp_neq]
  exact congrArg (fun b => (pure (Value.bool (!b)) : Sem Value)) (decide_eq_decide.2 BitVec.toInt_inj)
theorem b_lssI (t : TypeId) (x y : BitVec 64) : binOp .lss t (I x) (I y) = pure (.bool (decide (x.toInt < y.toInt))) := by
  unfold I
  rw [binOp_lss]

theorem b_leqI (t : TypeId) (x y : BitVec 64) : binOp .leq t (I x) (I y) = pure (.bool (decide (x.toInt ≤ y.toInt))) := by
  unfold I
  rw [binOp_leq]

theorem b_gtrI (t : TypeId) (x y : BitVec 64) : binOp .gtr t (I x) (I y) = pure (.bool (decide (y.toInt < x.toInt))) := by
  unfold I
  rw [binOp_gtr]

theorem b_geqI (t : TypeId) (x y : BitVec 64) : binOp .geq t (I x) (I y) = pure (.bool (decide (y.toInt ≤ x.toInt))) := by
  unfold I
  rw [binOp_geq]


/-! exact numbers of type int -/
theorem wrapZ (z : Int) (h : -9223372036854775808 ≤ z ∧ z < 9223372036854775808) : IntKind.i64.wrap z = z := IntWalk.i64_in z (by omega)
theorem wrapN (m : Nat) (h : m < 9223372036854775808) : IntKind.i64.wrap (m : Int) = (m : Int) := wrapZ _ (by omega)

theorem b_addZ (t : TypeId) (x y : Int) (h : -9223372036854775808 ≤ x + y ∧ x + y < 9223372036854775808) : binOp .add t (.int .i64 x) (.int .i64 y) = pure (.int .i64 (x + y)) := by
  rw [binOp_add]; unfold Op.intArith; simp only; rw [wrapZ _ h]
theorem b_subZ (t : TypeId) (x y : Int) (h : -9223372036854775808 ≤ x - y ∧ x - y < 9223372036854775808) : binOp .sub t (.int .i64 x) (.int .i64 y) = pure (.int .i64 (x - y)) := by
  rw [binOp_sub]; unfold Op.intArith; simp only; rw [wrapZ _ h]
theorem b_mulZ (t : TypeId) (x y : Int) (h : -9223372036854775808 ≤ x * y ∧ x * y < 9223372036854775808) : binOp .mul t (.int .i64 x) (.int .i64 y) = pure (.int .i64 (x * y)) := by
  rw [binOp_mul]; unfold Op.intArith; simp only; rw [wrapZ _ h]
theorem b_remZ (t : TypeId) (x y : Int) (h : y ≠ 0) : binOp .rem t (.int .i64 x) (.int .i64 y) = pure (.int .i64 (x.tmod y)) := by
  rw [binOp_rem]; unfold Op.intDiv; rw [if_neg h]
theorem b_quoZ (t : TypeId) (x y : Int) (h : y ≠ 0) (hb : -9223372036854775808 ≤ x.tdiv y ∧ x.tdiv y < 9223372036854775808) : binOp .quo t (.int .i64 x) (.int .i64 y) = pure (.int .i64 (x.tdiv y)) := by
  rw [binOp_quo]; unfold Op.intDiv; rw [if_neg h]; simp only; rw [wrapZ _ hb]
theorem b_addN (t : TypeId) (x y : Nat) (h : x + y < 9223372036854775808) : binOp .add t (N x) (N y) = pure (N (x + y)) := by
  unfold N; rw [b_addZ _ _ _ (by omega)]; rfl
theorem b_subN (t : TypeId) (x y : Nat) (h : y ≤ x) (hx : x < 9223372036854775808) : binOp .sub t (N x) (N y) = pure (N (x - y)) := by
  unfold N; rw [b_subZ _ _ _ (by omega), show ((x : Int) - y) = ((x - y : Nat) : Int) by omega]
theorem b_mulN (t : TypeId) (x y : Nat) (h : x * y < 9223372036854775808) : binOp .mul t (N x) (N y) = pure (N (x * y)) := by
  have e : (x : Int) * (y : Int) = ((x * y : Nat) : Int) := by simp
  unfold N; rw [b_mulZ _ _ _ (by rw [e]; omega), e]
theorem b_quoN (t : TypeId) (x y : Nat) (h : 0 < y) (hx : x < 9223372036854775808) : binOp .quo t (N x) (N y) = pure (N (x / y)) := by
  unfold N
  rw [binOp_quo]
  unfold Op.intDiv
  rw [if_neg (show ¬ ((y : Int) = 0) by omega)]
  simp only
  rw [show (x : Int).tdiv (y : Int) = ((x / y : Nat) : Int) by rw [Int.tdiv_eq_ediv_of_nonneg (by omega)]; simp]
  rw [wrapN _ (Nat.lt_of_le_of_lt (Nat.div_le_self _ _) hx)]
theorem b_remN (t : TypeId) (x y : Nat) (h : 0 < y) : binOp .rem t (N x) (N y) = pure (N (x % y)) := by
  unfold N
  rw [binOp_rem]
  unfold Op.intDiv
  rw [if_neg (show ¬ ((y : Int) = 0) by omega)]
  simp only
  rw [show (x : Int).tmod (y : Int) = ((x % y : Nat) : Int) by rw [Int.tmod_eq_emod_of_nonneg (by omega)]; simp]
theorem b_eqlZ (t : TypeId) (x y : Int) : binOp .eql t (.int .i64 x) (.int .i64 y) = pure (.bool (decide (x = y))) := by
  rw [binOp_eql]; congr 2
theorem b_neqZ (t : TypeId) (x y : Int) : binOp .neq t (.int .i64 x) (.int .i64 y) = pure (.bool (!decide (x = y))) := by
  rw [binOp_neq]; congr 2
theorem b_lssZ (t : TypeId) (x y : Int) : binOp .lss t (.int .i64 x) (.int .i64 y) = pure (.bool (decide (x < y))) := by rw [binOp_lss]
theorem b_leqZ (t : TypeId) (x y : Int) : binOp .leq t (.int .i64 x) (.int .i64 y) = pure (.bool (decide (x ≤ y))) := by rw [binOp_leq]
theorem b_gtrZ (t : TypeId) (x y : Int) : binOp .gtr t (.int .i64 x) (.int .i64 y) = pure (.bool (decide (y < x))) := by rw [binOp_gtr]
theorem b_geqZ (t : TypeId) (x y : Int) : binOp .geq t (.int .i64 x) (.int .i64 y) = pure (.bool (decide (y ≤ x))) := by rw [binOp_geq]
theorem b_eqlN (t : TypeId) (x y : Nat) : binOp .eql t (N x) (N y) = pure (.bool (decide (x = y))) := by
  unfold N; rw [b_eqlZ]; congr 2; exact decide_eq_decide.2 (by omega)
theorem b_neqN (t : TypeId) (x y : Nat) : binOp .neq t (N x) (N y) = pure (.bool (!decide (x = y))) := by
  unfold N; rw [b_neqZ]; congr 3; exact decide_eq_decide.2 (by omega)
theorem b_lssN (t : TypeId) (x y : Nat) : binOp .lss t (N x) (N y) = pure (.bool (decide (x < y))) := by
  unfold N; rw [b_lssZ]; congr 2; exact decide_eq_decide.2 (by omega)
theorem b_leqN (t : TypeId) (x y : Nat) : binOp .leq t (N x) (N y) = pure (.bool (decide (x ≤ y))) := by
  unfold N; rw [b_leqZ]; congr 2; exact decide_eq_decide.2 (by omega)
theorem b_gtrN (t : TypeId) (x y : Nat) : binOp .gtr t (N x) (N y) = pure (.bool (decide (y < x))) := by
  unfold N; rw [b_gtrZ]; congr 2; exact decide_eq_decide.2 (by omega)
theorem b_geqN (t : TypeId) (x y : Nat) : binOp .geq t (N x) (N y) = pure (.bool (decide (y ≤ x))) := by
  unfold N; rw [b_geqZ]; congr 2; exact decide_eq_decide.2 (by omega)

end Go.Sym
