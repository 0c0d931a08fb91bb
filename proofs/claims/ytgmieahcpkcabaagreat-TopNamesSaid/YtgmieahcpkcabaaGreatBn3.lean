import Derived.Test.YtgmieahcpkcabaaGreatBn2
import GoSem.Dispatch
import Derived.Scope
import Derived.Laws.Small
namespace Go.Ev
open Go
inductive T (α : Type) where
  | lf (a : α)
  | nd (l r : T α)
noncomputable section
def T.get {α : Type} (t : T α) : Nat → α := T.rec (motive := fun _ => Nat → α) (fun a _ => a) (fun _ _ gl gr i => cond (Nat.beq (Nat.mod i 2) 0) (gl (Nat.div i 2)) (gr (Nat.div i 2))) t
def T.set {α : Type} (d : Nat) : T α → Nat → α → T α := Nat.rec (motive := fun _ => T α → Nat → α → T α) (fun _ _ a => .lf a)
  (fun _ ih t i a => T.casesOn (motive := fun _ => T α) t (fun b => cond (Nat.beq (Nat.mod i 2) 0) (.nd (ih (.lf b) (Nat.div i 2) a) (.lf b)) (.nd (.lf b) (ih (.lf b) (Nat.div i 2) a)))
    (fun l r => cond (Nat.beq (Nat.mod i 2) 0) (.nd (ih l (Nat.div i 2) a) r) (.nd l (ih r (Nat.div i 2) a)))) d
inductive Ob where
  | var (i : Nat)
  | op0 (f : Nat)
  | op1 (f : Nat) (a : Ob)
  | op2 (f : Nat) (a b : Ob)
  | op3 (f : Nat) (a b c : Ob)
def obEq : Ob → Ob → Bool
  | .var i, .var j => Nat.beq i j
  | .op0 f, .op0 g => Nat.beq f g
  | .op1 f a, .op1 g b => Nat.beq f g && obEq a b
  | .op2 f a b, .op2 g c d => Nat.beq f g && obEq a c && obEq b d
  | .op3 f a b c, .op3 g a' b' c' => Nat.beq f g && obEq a a' && obEq b b' && obEq c c'
  | _, _ => false
inductive C where
  | int (k : IntKind) (n : Int)
  | bool (b : Bool)
  | str (l : List UInt8)
  | nilp
  | ptr (id off : Nat)
  | nils
  | sl (id off len : Nat) (cap : Option Nat)
  | emp
  | nilf
  | fn (f : FuncId) (caps : List (Nat × Nat))
  | sy (o : Ob) (k : Nat)
inductive P1 where
  | c (c : C)
  | agg (l : List C)
inductive V where
  | c (c : C)
  | agg (l : List C)
  | tup (l : List P1)
structure Bl where
  t : TypeId
  len : Nat
  cs : T C
  ro : Bool
  ks : Nat
structure Hp where
  h : T (Option Bl)
  nx : Nat
abbrev Fr := T (Option V)
abbrev Env := Operand → Option V
inductive K where
  | n
  | r (lo hi : Nat)
  | m (js : List Nat)
  | f (i : Nat)
structure Info where
  td : TypeId → Option TypeDesc
  sz : TypeId → Option Nat
  zc : TypeId → Option (T C)
  eg : TypeId → Bool
  fn : FuncId → Option Func
  pl : FuncId → Nat → List K
def DH : Nat := 12
def DC : Nat := 14
def DF : Nat := 9
def Hp.get (h : Hp) (i : Nat) : Option Bl := h.h.get i
def Hp.put (h : Hp) (i : Nat) (b : Option Bl) : Hp := ⟨h.h.set DH i b, h.nx⟩
def Hp.new (h : Hp) (id : Nat) (b : Bl) : Option Hp := bif Nat.blt id 4096 && Nat.ble b.len 16384 then some (h.put id (some b)) else none
def nat? (n : Int) : Option Nat := match n with | .ofNat m => some m | .negSucc _ => none
def cst1 : Value → Option C
  | .bool b => some (.bool b)
  | .int k n => some (.int k n)
  | .pointer none => some .nilp
  | .slice none 0 0 => some .nils
  | _ => none
def byte1 : C → Option UInt8
  | .int .u8 n => (nat? n).bind fun m => bif Nat.blt m 256 then some (UInt8.ofNat m) else none
  | _ => none
def cst : Value → Option V
  | .bool b => some (.c (.bool b))
  | .int k n => some (.c (.int k n))
  | .string s => some (.c (.str s.data.toList))
  | .pointer none => some (.c .nilp)
  | .slice none 0 0 => some (.c .nils)
  | .nilFunc => some (.c .nilf)
  | .agg cs => (cs.toList.mapM cst1).map .agg
  | _ => none
def opd (s : Fr) : Env
  | .tmp t => bif Nat.blt t 512 then s.get t else none
  | .const v => cst v
  | .func f => some (.c (.fn f []))
  | .global _ => none
def wrap (k : IntKind) (n : Int) : Int :=
  match k with
  | .u64 => n % 18446744073709551616
  | .u32 => n % 4294967296
  | .u16 => n % 65536
  | .u8 => n % 256
  | .i64 => bif (decide (-9223372036854775808 ≤ n)) && decide (n < 9223372036854775808) then n else (n + 9223372036854775808) % 18446744073709551616 - 9223372036854775808
  | k => k.wrap n
def lim : IntKind → Nat
  | .u64 => 18446744073709551616
  | .u32 => 4294967296
  | .u16 => 65536
  | .u8 => 256
  | .i64 => 9223372036854775808
  | .i32 => 2147483648
  | .i16 => 32768
  | .i8 => 128
def bits (op : BinOp) (x y : Nat) : Option Nat :=
  match op with
  | .and => some (x &&& y)
  | .or => some (x ||| y)
  | .xor => some (x ^^^ y)
  | .andNot => some (x ^^^ (x &&& y))
  | _ => none
def cmp (op : BinOp) (x y : Int) : Option Bool :=
  match op with
  | .eql => some (decide (x = y))
  | .neq => some (!decide (x = y))
  | .lss => some (decide (x < y))
  | .leq => some (decide (x ≤ y))
  | .gtr => some (decide (y < x))
  | .geq => some (decide (y ≤ x))
  | _ => none
def binI (op : BinOp) (k : IntKind) (x y : Int) : Option C :=
  match op with
  | .add => some (.int k (wrap k (x + y)))
  | .sub => some (.int k (wrap k (x - y)))
  | .mul => some (.int k (wrap k (x * y)))
  | .quo => if y = 0 then none else some (.int k (wrap k (x.tdiv y)))
  | .rem => if y = 0 then none else some (.int k (x.tmod y))
  | .shl => (nat? y).map fun m => .int k (wrap k (x * (2 ^ (min m k.bits) : Nat)))
  | .shr => (nat? y).bind fun m => (nat? x).map fun n => .int k ((n >>> (min m k.bits) : Nat) : Int)
  | .and | .or | .xor | .andNot => (nat? x).bind fun n => (nat? y).bind fun m => bif Nat.blt n (lim k) && Nat.blt m (lim k) then (bits op n m).map fun (r : Nat) => C.int k (Int.ofNat r) else none
  | _ => (cmp op x y).map .bool
def intD : TypeDesc → Bool
  | .int _ => true
  | _ => false
def leq : List C → List C → Option Bool
  | [], [] => some true
  | .int k x :: xs, .int k' y :: ys => match leq xs ys with
    | some b => if k = k' then some (decide (x = y) && b) else none
    | none => none
  | _, _ => none
def eqOp (op : BinOp) (b : Bool) : Option V :=
  match op with
  | .eql => some (.c (.bool b))
  | .neq => some (.c (.bool (!b)))
  | _ => none
def isP (I : Info) (t : TypeId) : Bool := match I.td t with | some (.pointer _) => true | _ => false
def isS (I : Info) (t : TypeId) : Bool := match I.td t with | some (.slice _) => true | _ => false
def isR (I : Info) (t : TypeId) (n : Nat) : Bool := match I.td t with
  | some (.array m e) => match I.td e, I.sz e with
    | some d, some 1 => intD d && Nat.beq m n && I.eg t
    | _, _ => false
  | _ => false
def bin (I : Info) (op : BinOp) (t : TypeId) : V → V → Option V
  | .c (.int k x), .c (.int k' y) => if k = k' ∨ op = .shl ∨ op = .shr then (binI op k x y).map .c else none
  | .c (.str a), .c (.str b) => eqOp op (a == b)
  | .c .nilp, .c .nilp => bif isP I t then eqOp op true else none
  | .c (.ptr _ _), .c .nilp => bif isP I t then eqOp op false else none
  | .c .nils, .c .nils => bif isS I t then eqOp op true else none
  | .c (.sl _ _ _ _), .c .nils => bif isS I t then eqOp op false else none
  | .c .emp, .c .nils => bif isS I t then eqOp op false else none
  | .agg a, .agg b => bif isR I t a.length && Nat.beq a.length b.length then (leq a b).bind (eqOp op) else none
  | _, _ => none
def un (op : UnOp) : V → Option V
  | .c (.bool b) => match op with | .not => some (.c (.bool (!b))) | _ => none
  | .c (.int k n) => match op with
    | .neg => some (.c (.int k (wrap k (-n))))
    | .xor => if k.signed then none else (nat? n).bind fun m => bif Nat.blt m (lim k) then some (.c (.int k (k.max - n))) else none
    | _ => none
  | _ => none
def rd (t : T C) (off : Nat) : Nat → List C
  | 0 => []
  | n + 1 => t.get off :: rd t (off + 1) n
def wr (t : T C) (off : Nat) : List C → T C
  | [] => t
  | c :: l => wr (t.set DC off c) (off + 1) l
def isAgg : TypeDesc → Bool
  | .array .. => true
  | .struct _ => true
  | _ => false
def load (I : Info) (h : Hp) (t : TypeId) (id off : Nat) : Option V :=
  match I.td t, I.sz t, h.get id with
  | some d, some n, some b => bif isAgg d then (bif Nat.ble (off + n) b.len then some (.agg (rd b.cs off n)) else none) else (bif Nat.blt off b.len then some (.c (b.cs.get off)) else none)
  | _, _, _ => none
def cellsOf : V → Option (List C)
  | .c c => some [c]
  | .agg l => some l
  | .tup _ => none
def store (I : Info) (h : Hp) (t : TypeId) (id off : Nat) (v : V) : Option Hp :=
  match h.get id, cellsOf v, I.sz t with
  | some b, some l, some n => bif Nat.beq n l.length && Nat.ble (off + l.length) b.len && not b.ro then some (h.put id (some ⟨b.t, b.len, wr b.cs off l, false, b.ks⟩)) else none
  | _, _, _ => none
def ofList (l : List C) : T C := wr (.lf (.bool false)) 0 l
def natV : V → Option Nat
  | .c (.int _ n) => nat? n
  | _ => none
def fieldOf (I : Info) (t : TypeId) (f : Nat) : Option Field := match I.td t with | some (.struct fs) => fs[f]? | _ => none
def place (I : Info) (d : TypeDesc) (i : Nat) : Option (Nat × Nat) := match d with
  | .struct fs => match fs[i]? with
    | some f => (I.sz f.type).map (f.offset, ·)
    | none => none
  | .array _ e => (I.sz e).map fun k => (i * k, k)
  | .slice e => (I.sz e).map fun k => (i * k, k)
  | _ => none
def partsC (I : Info) (d : TypeDesc) (n : Nat) (base : T C) : List (Nat × Option V) → Option (T C)
  | [] => some base
  | (i, some v) :: r => match cellsOf v, place I d i with
    | some l, some (o, k) => bif Nat.beq k l.length && Nat.ble (o + l.length) n then partsC I d n (wr base o l) r else none
    | _, _ => none
  | _ :: _ => none
def capOf : V → Option (Nat × Nat)
  | .c (.ptr id off) => some (id, off)
  | _ => none
def rep : Nat → List C → List C
  | 0, _ => []
  | n + 1, l => l ++ rep n l
def lenV : V → Option Nat
  | .c .nils => some 0
  | .c (.sl _ _ len _) => some len
  | .c .emp => some 0
  | _ => none
def bnd (ρ : Env) (d : Nat) : Option Operand → Option Nat
  | none => some d
  | some y => (ρ y).bind natV
def bnd3 (ρ : Env) : Option Operand → Option (Option Nat)
  | none => some none
  | some y => ((ρ y).bind natV).map some
def sl (id off i j k : Nat) (cap : Option Nat) : C := match cap with
  | some c => bif Nat.beq c i then .sl id off (j - i) (some 0) else .sl id (off + i * k) (j - i) (some (c - i))
  | none => .sl id (off + i * k) (j - i) none
def fits (len j : Nat) : Option Nat → Bool
  | some c => Nat.ble j c
  | none => Nat.ble j len
def fits0 (len i k : Nat) : Option Nat → Bool
  | some _ => true
  | none => Nat.beq i 0 || (Nat.blt i len && Nat.blt 0 k)
def pop (I : Info) (ρ : Env) : Op → Option V
  | .move x | .assign x => ρ x
  | .pick c a b => match ρ c with
    | some (.c (.bool true)) => ρ a
    | some (.c (.bool false)) => ρ b
    | _ => none
  | .build t ps => match I.zc t, I.sz t, I.td t with
    | some z, some n, some d => bif isAgg d && Nat.ble n 16384 then (partsC I d n z (ps.toList.map fun (i, x) => (i, ρ x))).map fun c => .agg (rd c 0 n) else none
    | _, _, _ => none
  | .nilCheck x => match ρ x with
    | some (.c (.ptr id off)) => some (.c (.ptr id off))
    | some (.c (.fn f l)) => some (.c (.fn f l))
    | _ => none
  | .binOp op t x y _ => match ρ x, ρ y with
    | some a, some b => bin I op t a b
    | _, _ => none
  | .unOp op _ x => match ρ x with
    | some a => un op a
    | none => none
  | .convert s d x => match ρ x, I.td d, I.td s with
    | some (.c (.int _ n)), some (.int k), some _ => some (.c (.int k (wrap k n)))
    | _, _, _ => none
  | .sliceToArrayPointer t x => match ρ x, I.td t with
    | some (.c (.sl id off len _)), some (.array n _) => bif Nat.ble n len then some (.c (.ptr id off)) else none
    | _, _ => none
  | .makeFunc (.func f) ⟨[]⟩ cs => (cs.toList.mapM fun x => (ρ x).bind capOf).map fun l => .c (.fn f l)
  | .slice t x lo hi mx => match ρ x, I.td t with
    | some (.c (.ptr id off)), some (.array n e) => match I.sz e, bnd ρ 0 lo, bnd ρ n hi, bnd3 ρ mx with
      | some k, some i, some j, some none => bif Nat.ble i j && Nat.ble j n then some (.c (sl id off i j k (some n))) else none
      | _, _, _, _ => none
    | some (.c .nils), some (.slice e) => match I.sz e, bnd ρ 0 lo, bnd ρ 0 hi, bnd3 ρ mx with
      | some _, some 0, some 0, some none => some (.c .nils)
      | _, _, _, _ => none
    | some (.c .emp), some (.slice e) => match I.sz e, bnd ρ 0 lo, bnd ρ 0 hi, bnd3 ρ mx with
      | some _, some 0, some 0, some none => some (.c .emp)
      | _, _, _, _ => none
    | some (.c (.sl id off len cap)), some (.slice e) => match I.sz e, bnd ρ 0 lo, bnd ρ len hi, bnd3 ρ mx with
      | some k, some i, some j, some none => bif Nat.ble i j && fits len j cap && fits0 len i k cap then some (.c (sl id off i j k cap)) else bif Nat.beq i len && Nat.beq j len then some (.c .emp) else none
      | some k, some i, some j, some (some m) => match hi with
        | some _ => bif Nat.ble i j && Nat.ble j m && fits len m cap then some (.c (sl id off i j k (some m))) else none
        | none => none
      | _, _, _, _ => none
    | _, _ => none
  | .fieldAddr t x f => match ρ x, fieldOf I t f with
    | some (.c (.ptr id off)), some fd => match I.sz fd.type with
      | some (_ + 1) => some (.c (.ptr id (off + fd.offset)))
      | _ => none
    | _, _ => none
  | .field t x f => match ρ x, fieldOf I t f with
    | some (.agg l), some fd => match I.td fd.type, I.sz fd.type with
      | some d, some n => bif isAgg d then some (.agg ((l.drop fd.offset).take n)) else (l[fd.offset]?).map .c
      | _, _ => none
    | _, _ => none
  | .indexAddr t x y => match ρ x, (ρ y).bind natV, I.td t with
    | some (.c (.ptr id off)), some i, some (.array n e) => match I.sz e with
      | some k => bif Nat.blt i n then some (.c (.ptr id (off + i * k))) else none
      | none => none
    | some (.c (.sl id off len _)), some i, some (.slice e) => match I.sz e with
      | some k => bif Nat.blt i len then some (.c (.ptr id (off + i * k))) else none
      | none => none
    | _, _, _ => none
  | .index t x y => match ρ x, (ρ y).bind natV, I.td t with
    | some (.agg l), some i, some (.array n e) => match I.td e, I.sz e with
      | some d, some k => bif Nat.blt i n then (bif isAgg d then some (.agg ((l.drop (i * k)).take k)) else (l[i * k]?).map .c) else none
      | _, _ => none
    | _, _, _ => none
  | .extract x i => match ρ x with
    | some (.tup l) => match l[i]? with | some (.c c) => some (.c c) | some (.agg a) => some (.agg a) | none => none
    | _ => none
  | .call ⟨.builtin .len, ⟨[x]⟩, ⟨[t]⟩⟩ => bif isS I t then (match ρ x with
    | some (.c .nils) => some (.c (.int .i64 0))
    | some (.c (.sl _ _ len _)) => some (.c (.int .i64 (Int.ofNat len)))
    | some (.c .emp) => some (.c (.int .i64 0))
    | _ => none) else none
  | .call ⟨.builtin .cap, ⟨[x]⟩, ⟨[t]⟩⟩ => bif isS I t then (match ρ x with
    | some (.c .nils) => some (.c (.int .i64 0))
    | some (.c (.sl _ _ _ (some c))) => some (.c (.int .i64 (Int.ofNat c)))
    | _ => none) else none
  | .call ⟨.builtin .min, ⟨[x, y]⟩, _⟩ => match ρ x, ρ y with
    | some (.c (.int k p)), some (.c (.int k' q)) => if k = k' then some (.c (.int k (bif decide (q < p) then q else p))) else none
    | _, _ => none
  | .call ⟨.builtin .max, ⟨[x, y]⟩, _⟩ => match ρ x, ρ y with
    | some (.c (.int k p)), some (.c (.int k' q)) => if k = k' then some (.c (.int k (bif decide (p < q) then q else p))) else none
    | _, _ => none
  | _ => none
def mk (I : Info) (ρ : Env) : Op → Option (Option (Nat × Nat) × Bl)
  | .alloc t => match I.sz t, I.zc t with
    | some n, some z => some (none, ⟨t, n, z, false, 0⟩)
    | _, _ => none
  | .box t x => match ρ x with
    | some v => (cellsOf v).bind fun l => bif Nat.ble l.length 16384 then some (none, ⟨t, l.length, ofList l, false, 0⟩) else none
    | none => none
  | .buildSlice t n ps => match I.td t with
    | some (.slice e) => match I.sz e, I.zc e with
      | some (k + 1), some z => bif Nat.ble (n * (k + 1)) 16384 then (partsC I (.slice e) (n * (k + 1)) (ofList (rep n (rd z 0 (k + 1)))) (ps.toList.map fun (i, x) => (i, ρ x))).map fun c => (some (n, n), ⟨e, n * (k + 1), c, false, 0⟩) else none
      | _, _ => none
    | _ => none
  | .makeSlice t l c => match I.td t, (ρ l).bind natV, (ρ c).bind natV with
    | some (.slice e), some n, some m => match I.sz e, I.zc e with
      | some (k + 1), some z => bif Nat.ble n m && Nat.ble (m * (k + 1)) 16384 then some (some (n, m), ⟨e, m * (k + 1), match k with | 0 => .lf (z.get 0) | _ => ofList (rep m (rd z 0 (k + 1))), false, 0⟩) else none
      | _, _ => none
    | _, _, _ => none
  | _ => none
def mkV (id : Nat) : Option (Nat × Nat) → V
  | none => .c (.ptr id 0)
  | some (n, m) => .c (.sl id 0 n (some m))
def byteT (I : Info) (e : TypeId) : Bool := match I.td e with | some (.int .u8) => true | _ => false
def toStr (I : Info) (h : Hp) (s : TypeId) : Option V → Option V
  | some (.c .nils) => match I.td s with
    | some (.slice e) => bif byteT I e then some (.c (.str [])) else none
    | _ => none
  | some (.c (.sl id off len _)) => match I.td s, h.get id with
    | some (.slice e), some b => bif byteT I e && Nat.ble (off + len) b.len then ((rd b.cs off len).mapM byte1).map fun l => .c (.str l) else none
    | _, _ => none
  | _ => none
def contents (h : Hp) (k : Nat) : V → Option (List C)
  | .c .nils => some []
  | .c .emp => some []
  | .c (.sl id off len _) => (h.get id).bind fun b => bif Nat.ble (off + len * k) b.len then some (rd b.cs off (len * k)) else none
  | _ => none
def cpy (h : Hp) (k : Nat) (d src : V) : Option (V × Hp) :=
  match lenV src, contents h k src with
  | some m, some l =>
    match d with
    | .c (.sl id off len _) => match h.get id with
      | some b => bif Nat.ble (off + Nat.min m len * k) b.len && not b.ro then some (.c (.int .i64 (Int.ofNat (Nat.min m len))), h.put id (some ⟨b.t, b.len, wr b.cs off (l.take (Nat.min m len * k)), false, b.ks⟩)) else none
      | none => none
    | .c .nils => some (.c (.int .i64 0), h)
    | _ => none
  | _, _ => none
def app (h : Hp) (nid : Nat) (e : TypeId) (k : Nat) (a src : V) : Option (V × Hp) :=
  match lenV a, lenV src, contents h k a, contents h k src with
  | some n, some m, some l, some l2 =>
    match a with
    | .c (.sl id off _ (some c)) =>
      bif Nat.ble (n + m) c then
        (match h.get id with
         | some b => bif Nat.ble (off + (n + m) * k) b.len && not b.ro then some (.c (.sl id off (n + m) (some c)), h.put id (some ⟨b.t, b.len, wr b.cs (off + n * k) l2, false, b.ks⟩)) else none
         | none => none)
      else (h.new nid ⟨e, (n + m) * k, ofList (l ++ l2), false, k⟩).map (V.c (.sl nid 0 (n + m) none), ·)
    | .c .nils => bif Nat.beq m 0 then some (.c .nils, h) else (h.new nid ⟨e, (n + m) * k, ofList (l ++ l2), false, k⟩).map (V.c (.sl nid 0 (n + m) none), ·)
    | .c (.sl id 0 _ none) => bif Nat.beq m 0 then some (a, h) else (match h.get id with
      | some b => bif not b.ro && Nat.beq b.t e && Nat.beq b.ks k then (h.new nid ⟨e, (n + m) * k, ofList (l ++ l2), false, k⟩).map fun h' => (V.c (.sl nid 0 (n + m) none), h'.put id none) else none
      | none => none)
    | _ => none
  | _, _, _, _ => none
def op1 (I : Info) (ρ : Env) (h : Hp) (nid : Nat) : Op → Option (V × Hp)
  | .load t x => match ρ x with
    | some (.c (.ptr id off)) => (load I h t id off).map (·, h)
    | _ => none
  | .convert s d x => match I.td d with
    | some .string => (toStr I h s (ρ x)).map (·, h)
    | some (.slice e) => match ρ x with
      | some (.c (.sl id off len cap)) => match I.td s, h.get id with
        | some (.slice _), some b => bif Nat.beq s d && byteT I e then some (.c (.sl id off len cap), h.put id (some ⟨b.t, b.len, b.cs, true, b.ks⟩)) else none
        | _, _ => none
      | _ => none
    | _ => (pop I ρ (.convert s d x)).map (·, h)
  | .store t x y => match ρ x, ρ y with
    | some (.c (.ptr id off)), some v => (store I h t id off v).map (V.tup [], ·)
    | _, _ => none
  | .alloc t => (mk I ρ (.alloc t)).bind fun (q, b) => (h.new nid b).map (mkV nid q, ·)
  | .box t x => (mk I ρ (.box t x)).bind fun (q, b) => (h.new nid b).map (mkV nid q, ·)
  | .buildSlice t n ps => (mk I ρ (.buildSlice t n ps)).bind fun (q, b) => (h.new nid b).map (mkV nid q, ·)
  | .makeSlice t l c => (mk I ρ (.makeSlice t l c)).bind fun (q, b) => (h.new nid b).map (mkV nid q, ·)
  | .call ⟨.builtin .copy, ⟨[x, y]⟩, ⟨[t, t']⟩⟩ => match I.td t, I.td t', ρ x, ρ y with
    | some (.slice e), some (.slice _), some d, some src => match I.sz e with
      | some k => cpy h k d src
      | none => none
    | _, _, _, _ => none
  | .call ⟨.builtin .append, ⟨[x, y]⟩, ⟨[t, t']⟩⟩ => match I.td t, I.td t', ρ x, ρ y with
    | some (.slice e), some (.slice _), some a, some src => match I.sz e, I.zc e with
      | some (k + 1), some _ => app h nid e (k + 1) a src
      | _, _ => none
    | some (.slice e), some (.int .i64), some (.c .nils), some (.c (.int .i64 z)) => match I.sz e, I.zc e, nat? z with
      | some 1, some c, some (m + 1) => bif byteT I e && Nat.ble m 16383 then (h.new nid ⟨e, m + 1, .lf (c.get 0), false, 1⟩).map (V.c (.sl nid 0 (m + 1) none), ·) else none
      | _, _, _ => none
    | _, _, _, _ => none
  | p => (pop I ρ p).map (·, h)
inductive Ex where
  | norm
  | ret
  | exit (i : Nat)
def wanted (ops : List Oper) (s : Fr) : Option (Nat × Bool) → Option Bool
  | none => some true
  | some (j, b) => match ops[j]? with
    | some o => match o.dst with
      | some d => match opd s (.tmp d) with
        | some (.c (.bool b')) => some (b == b')
        | some (.tup []) => some false
        | _ => none
      | none => none
    | none => none
def putD (n : Nat) (s : Fr) (d : Option Nat) (v : V) : Option Fr := match d with | some d => bif Nat.blt d n then some (s.set DF d (some v)) else none | none => some s
variable (I : Info) (call : FuncId → List V → Hp → Option (V × Hp))
def args (ρ : Env) : List Operand → Option (List V)
  | [] => some []
  | x :: r => match ρ x, args ρ r with
    | some v, some l => some (v :: l)
    | _, _ => none
def mkOp : Op → Bool
  | .alloc _ => true
  | .box _ _ => true
  | .buildSlice _ _ _ => true
  | .makeSlice _ _ _ => true
  | .call ⟨.builtin .append, _, _⟩ => true
  | _ => false
def Hp.nxt (h : Hp) (o : Op) : Hp := ⟨h.h, bif mkOp o then h.nx + 1 else h.nx⟩
def step (ρ : Env) (h : Hp) (o : Oper) : Option (V × Hp) :=
  match o.op with
  | .call ⟨.value f, xs, _⟩ => match ρ f, args ρ xs.toList with
    | some (.c (.fn g caps)), some l => call g (l ++ caps.map fun (id, off) => V.c (.ptr id off)) h
    | _, _ => none
  | .store t x y => match o.dst with
    | none => op1 I ρ (h.nxt o.op) h.nx (.store t x y)
    | some _ => none
  | p => op1 I ρ (h.nxt p) h.nx p
def ops (n : Nat) (all : List Oper) : List Oper → Fr → Hp → Option (Fr × Hp)
  | [], s, h => some (s, h)
  | o :: r, s, h => match wanted all s o.guard with
    | some true => match step I call (opd s) h o with
      | some (v, h') => match putD n s o.dst v with
        | some s' => ops n all r s' h'
        | none => none
      | none => none
    | some false => match putD n s o.dst (.tup []) with
      | some s' => ops n all r s' h
      | none => none
    | none => none
def look (i : Nat) : List (Nat × Bl) → Option Bl
  | [] => none
  | (j, b) :: r => bif Nat.beq i j then some b else look i r
def drop (i : Nat) : List (Nat × Bl) → List (Nat × Bl)
  | [] => []
  | (j, b) :: r => bif Nat.beq i j then r else (j, b) :: drop i r
def joinL (base : Nat) : List Nat → List (Nat × Bl) → Hp → Option (List (Nat × Bl) × Hp)
  | [], pd, h => some (pd, h)
  | j :: js, pd, h => match look j pd with
    | some b => joinL base js (drop j pd) (h.put (base + j) (some b))
    | none => none
def opsD (n base : Nat) (all : List Oper) : List Oper → List K → Fr → Hp → List (Nat × Bl) → Option (Fr × List Hp × Hp × List (Nat × Bl))
  | [], [], s, h, pd => some (s, [h], h, pd)
  | o :: r, .m js :: ks, s, h, pd => match joinL base js pd h with
    | some (pd', h1) => match wanted all s o.guard with
      | some true => match step I call (opd s) h1 o with
        | some (v, h') => match putD n s o.dst v with
          | some s' => match opsD n base all r ks s' h' pd' with
            | some (sF, hs, hF, pF) => some (sF, h :: hs, hF, pF)
            | none => none
          | none => none
        | none => none
      | some false => match putD n s o.dst (.tup []) with
        | some s' => match opsD n base all r ks s' h1 pd' with
          | some (sF, hs, hF, pF) => some (sF, h :: hs, hF, pF)
          | none => none
        | none => none
      | none => none
    | none => none
  | o :: r, .f i :: ks, s, h, pd => match mk I (opd s) o.op with
    | some (q, b) => bif Nat.blt (base + i) 4096 && Nat.ble b.len 16384 then (match putD n s o.dst (mkV (base + i) q) with
      | some s' => opsD n base all r ks s' h ((i, b) :: pd)
      | none => none) else none
    | none => none
  | o :: r, _ :: ks, s, h, pd => match wanted all s o.guard with
    | some true => match op1 I (opd s) h 0 o.op with
      | some (v, _) => match putD n s o.dst v with
        | some s' => opsD n base all r ks s' h pd
        | none => none
      | none => none
    | some false => match putD n s o.dst (.tup []) with
      | some s' => opsD n base all r ks s' h pd
      | none => none
    | none => none
  | _, _, _, _, _ => none
def capsEq : List (Nat × Nat) → List (Nat × Nat) → Bool
  | [], [] => true
  | (a, b) :: r, (c, d) :: t => Nat.beq a c && Nat.beq b d && capsEq r t
  | _, _ => false
def optEq : Option Nat → Option Nat → Bool
  | none, none => true
  | some a, some b => Nat.beq a b
  | _, _ => false
def cEq : C → C → Bool
  | .int k n, .int k' n' => (if k = k' then true else false) && decide (n = n')
  | .bool a, .bool b => a == b
  | .str a, .str b => a == b
  | .nilp, .nilp => true
  | .ptr a b, .ptr c d => Nat.beq a c && Nat.beq b d
  | .nils, .nils => true
  | .emp, .emp => true
  | .sl a b c d, .sl a' b' c' d' => Nat.beq a a' && Nat.beq b b' && Nat.beq c c' && optEq d d'
  | .nilf, .nilf => true
  | .fn f l, .fn g l' => Nat.beq f g && capsEq l l'
  | .sy o k, .sy o' k' => obEq o o' && Nat.beq k k'
  | _, _ => false
def csEq : List C → List C → Bool
  | [], [] => true
  | a :: r, b :: t => cEq a b && csEq r t
  | _, _ => false
def vEq : V → V → Bool
  | .c a, .c b => cEq a b
  | .agg a, .agg b => csEq a b
  | _, _ => false
def readAll (ρ : Env) (o : Op) (v : V) : List Hp → Bool
  | [] => true
  | h :: hs => match op1 I ρ h 0 o with
    | some (v', _) => vEq v v' && readAll ρ o v hs
    | none => false
def recheck (all : List Oper) (s : Fr) (hs : List Hp) : List Oper → List K → Bool
  | o :: r, .r lo hi :: ks => match wanted all s o.guard with
    | some true => match o.dst with
      | some d => match opd s (.tmp d) with
        | some v => readAll I (opd s) o.op v ((hs.drop lo).take (hi + 1 - lo)) && recheck all s hs r ks
        | none => false
      | none => false
    | some false => recheck all s hs r ks
    | none => false
  | _ :: r, _ :: ks => recheck all s hs r ks
  | _, _ => true
def floats : List K → List Nat
  | [] => []
  | .f i :: r => i :: floats r
  | _ :: r => floats r
def allJ : List K → List Nat
  | [] => []
  | .m js :: r => js ++ allJ r
  | _ :: r => allJ r
def memB (q : Nat) : List Nat → Bool
  | [] => false
  | x :: l => Nat.beq q x || memB q l
def lone (js : List Nat) : List Nat → List Nat
  | [] => []
  | q :: l => bif memB q js then lone js l else q :: lone js l
def endJ (ks : List K) : List Nat := match floats ks with
  | [] => []
  | l => lone (allJ ks) l
def regD (n : Nat) (all : List Oper) (ks : List K) (s : Fr) (h : Hp) : Option (Fr × Hp) :=
  match opsD I call n h.nx all all ks s ⟨h.h, h.nx + (floats ks).length⟩ [] with
  | some (sF, hs, hF, pF) => bif recheck I all sF hs all ks then (match joinL h.nx (endJ ks) pF hF with
    | some (_, hE) => some (sF, hE)
    | none => none) else none
  | none => none
def loopN (body : Fr → Hp → Option (Ex × Fr × Hp)) : Nat → Fr → Hp → Option (Ex × Fr × Hp)
  | 0, _, _ => none
  | n + 1, s, h => match body s h with
    | some (.norm, s', h') => loopN body n s' h'
    | r => r
def code (n : Nat) (pl : Nat → List K) : Code → Fr → Hp → Option (Ex × Fr × Hp)
  | .skip, s, h => some (.norm, s, h)
  | .label _, s, h => some (.norm, s, h)
  | .region id os d, s, h => match (bif d then regD I call n os.toList (pl id) s h else ops I call n os.toList os.toList s h) with
    | some (s', h') => some (.norm, s', h')
    | none => none
  | .seq a b, s, h => match code n pl a s h with
    | some (.norm, s', h') => code n pl b s' h'
    | r => r
  | .cond c a b, s, h => match opd s c with
    | some (.c (.bool true)) => code n pl a s h
    | some (.c (.bool false)) => code n pl b s h
    | _ => none
  | .block i a, s, h => match code n pl a s h with
    | some (.exit j, s', h') => bif Nat.beq i j then some (.norm, s', h') else some (.exit j, s', h')
    | r => r
  | .loop a, s, h => loopN (code n pl a) 100000 s h
  | .scope a, s, h => code n pl a s h
  | .exit i, s, h => some (.exit i, s, h)
  | .ret, s, h => some (.ret, s, h)
  | _, _, _ => none
def resOf (s : Fr) (h : Hp) : ResultVar → Option P1
  | .tmp t => match opd s (.tmp t) with
    | some (.c c) => some (.c c)
    | some (.agg l) => some (.agg l)
    | _ => none
  | .cell p t => match opd s (.tmp p) with
    | some (.c (.ptr id off)) => match load I h t id off with
      | some (.c c) => some (.c c)
      | some (.agg l) => some (.agg l)
      | _ => none
    | _ => none
def resL (s : Fr) (h : Hp) : List ResultVar → Option (List P1)
  | [] => some []
  | r :: l => match resOf I s h r, resL s h l with
    | some p, some q => some (p :: q)
    | _, _ => none
def results (s : Fr) (h : Hp) (l : List ResultVar) : Option V :=
  match resL I s h l with
  | some [.c c] => some (.c c)
  | some [.agg a] => some (.agg a)
  | some l => some (.tup l)
  | none => none
def frame0 : Nat → List V → Fr
  | _, [] => .lf none
  | i, v :: r => (frame0 (i + 1) r).set DF i (some v)
def callF (orc : FuncId → Option (List V → Hp → Option (V × Hp))) : Nat → FuncId → List V → Hp → Option (V × Hp)
  | 0, _, _, _ => none
  | n + 1, f, as, h => match orc f with
    | some g => g as h
    | none => match I.fn f with
      | some fn => match (bif Nat.ble fn.ntmps 512 && Nat.ble as.length fn.ntmps then fn.body else none) with
        | some b => match code I (callF orc n) fn.ntmps (I.pl f) b (frame0 0 as) h with
          | some (.norm, s, h') => (results I s h' fn.results.toList).map (·, h')
          | some (.ret, s, h') => (results I s h' fn.results.toList).map (·, h')
          | _ => none
        | none => none
      | none => none
end
end Go.Ev
namespace Go.Sym
open Go Go.RowKit
section
variable {P : Program} {Q : Exit → Act → World → Prop} {a : Act} {w w0 : World} {n : Nat} {E : Nat → Option Value} {L : List Blk} {ops : Array Oper} {rest : List Oper}
variable {dst : Option Nat} {ty : TypeId} {pos : String} {af : Array Edge} {g : Option (Nat × Bool)}
theorem c_scope {c : Code} (h : c.wp P (Exit.noGoto Q) a w) : (Code.scope c).wp P Q a w := wp_scope_straight h
theorem c_label {l : Nat} (h : Q .normal a w) : (Code.label l).wp P Q a w := wp_label h
theorem k_sc (h : Q .normal a w) : Exit.noGoto Q .normal a w := h
theorem k_scx {id : Nat} (h : Q (.exit id) a w) : Exit.noGoto Q (.exit id) a w := h
theorem k_scr (h : Q .ret a w) : Exit.noGoto Q .ret a w := h
theorem r_min {x y : Operand} {ts : Array TypeId} {k k' : IntKind} {p q r : Int} (hS : Slots a n E) (hx : ev E x = some (.int k p)) (hy : ev E y = some (.int k' q)) (hr : (if q < p then q else p) = r) : Run P a ⟨dst, .call ⟨.builtin .min, #[x, y], ts⟩, ty, pos, af, g⟩ w (.int k r) := by
  subst hr
  simp [Run, execOp, hS.eval hx, hS.eval hy, resolve, invoke, builtin, run_min_int2]
theorem r_max {x y : Operand} {ts : Array TypeId} {k k' : IntKind} {p q r : Int} (hS : Slots a n E) (hx : ev E x = some (.int k p)) (hy : ev E y = some (.int k' q)) (hr : (if q > p then q else p) = r) : Run P a ⟨dst, .call ⟨.builtin .max, #[x, y], ts⟩, ty, pos, af, g⟩ w (.int k r) := by
  subst hr
  simp [Run, execOp, hS.eval hx, hS.eval hy, resolve, invoke, builtin, run_max_int2]
theorem s_skipu {o : Oper} {d j dj : Nat} {b : Bool} {oj : Oper} (hS : Slots a n E) (hd : d < n) (ho : o.dst = some d) (hg : o.guard = some (j, b)) (hj : ops[j]? = some oj) (hdj : oj.dst = some dj)
    (hb : E dj = some undef) (h : ∀ a, Slots a n (put E d undef) → wpList P ops Q rest a w) : wpList P ops Q (o :: rest) a w := by
  have hw : Region.wanted o (yielded ops a.tmps) = false := by
    have := hS.get _ _ hb
    simp [Region.wanted, hg, yielded, hj, hdj, this, undef]
  refine wpList_skip hw ?_
  rw [ho]
  exact h _ (hS.put undef hd)
end
section
variable {P : Program} {ops : List Oper} {n : Nat} {C : World → Prop} {o : Oper} {a : Act} {w : World} {E : Nat → Option Value}
end
end Go.Sym
namespace Go.Sym
open Go Go.RowKit
section
variable {P : Program} {Q : Exit → Act → World → Prop} {a : Act} {w w0 : World} {n : Nat} {E : Nat → Option Value} {L : List Blk} {ops : Array Oper} {rest : List Oper}
variable {dst : Option Nat} {ty : TypeId} {pos : String} {af : Array Edge} {g : Option (Nat × Bool)}
theorem r_fieldA {t : TypeId} {x : Operand} {b off f s k : Nat} {fields : Array Field} {fd : Field} (hS : Slots a n E) (hx : ev E x = some (ptr b off)) (hT : P.underlying t = some (.struct fields)) (hf : fields[f]? = some fd)
    (hs : (P.info? fd.type).map (·.size) = some (s + 1)) (hk : fd.offset = k) : Run P a ⟨dst, .fieldAddr t x f, ty, pos, af, g⟩ w (ptr b (off + k)) := by
  subst hk; exact r_fieldAddr hS hx hT hf hs
theorem r_field0 {t : TypeId} {x : Operand} {b f s k : Nat} {fields : Array Field} {fd : Field} (hS : Slots a n E) (hx : ev E x = some (ptr b 0)) (hT : P.underlying t = some (.struct fields)) (hf : fields[f]? = some fd)
    (hs : (P.info? fd.type).map (·.size) = some (s + 1)) (hk : fd.offset = k) : Run P a ⟨dst, .fieldAddr t x f, ty, pos, af, g⟩ w (ptr b k) := by
  have := r_fieldA (P := P) (w := w) (dst := dst) (ty := ty) (pos := pos) (af := af) (g := g) hS hx hT hf hs hk
  rwa [Nat.zero_add] at this
theorem r_fieldZ {t : TypeId} {x : Operand} {b off f s : Nat} {fields : Array Field} {fd : Field} (hS : Slots a n E) (hx : ev E x = some (ptr b off)) (hT : P.underlying t = some (.struct fields)) (hf : fields[f]? = some fd)
    (hs : (P.info? fd.type).map (·.size) = some (s + 1)) (hk : fd.offset = 0) : Run P a ⟨dst, .fieldAddr t x f, ty, pos, af, g⟩ w (ptr b off) := r_fieldA (P := P) (w := w) (dst := dst) (ty := ty) (pos := pos) (af := af) (g := g) hS hx hT hf hs hk
theorem r_index0z {t el : TypeId} {x y : Operand} {b len i s : Nat} {k : IntKind} (hS : Slots a n E) (hx : ev E x = some (ptr b 0)) (hy : ev E y = some (.int k (i : Int))) (hT : P.underlying t = some (.array len el))
    (hs : (P.info? el).map (·.size) = some s) (hi : i < len) : Run P a ⟨dst, .indexAddr t x y, ty, pos, af, g⟩ w (ptr b (s * i)) := by
  have := r_indexA (P := P) (w := w) (dst := dst) (ty := ty) (pos := pos) (af := af) (g := g) hS hx hy hT hs hi
  rwa [Nat.zero_add, Nat.mul_comm] at this
end
end Go.Sym
namespace Go.Sym
open Go Go.RowKit
theorem Mem.perm {w0 w : World} {L L' : List Blk} (h : Mem w0 w L) (p : L.Perm L') : Mem w0 w L' where
  os := h.os
  tape := h.tape
  output := h.output
  size := h.size
  old := fun k hk hne => h.old k hk (fun e he => hne e (p.mem_iff.1 he))
  have_ := fun e he => h.have_ e (p.mem_iff.2 he)
  nodup := (p.map (·.b)).nodup_iff.1 h.nodup
theorem Mem.dropApp {w0 w : World} : ∀ {X L : List Blk}, Mem w0 w (X ++ L) → (∀ e ∈ X, w0.heap.size ≤ e.b) → Mem w0 w L
  | [], _, h, _ => h
  | e :: _, _, h, hb => Mem.dropApp (h.drop (hb e List.mem_cons_self)) (fun f hf => hb f (List.mem_cons_of_mem _ hf))
def GYields (P : Program) (ops : List Oper) (o : Oper) (a : Act) (w : World) (R : Value → List Blk → World → Prop) : Prop :=
  (Region.wanted o (yielded ops.toArray a.tmps) = true ∧
    ((∃ v w' B, ((execOp a.eval o).run P w = .ok (.value v) w' ∨ ((execOp a.eval o).run P w = .ok .skip w' ∧ o.dst = none ∧ v = undef)) ∧ R v B w') ∨
     ∃ f args, (execOp a.eval o).run P w = .ok (.enter f args) w ∧ Calls P f args w (fun e w' => ∃ v B, e = .returned v ∧ R v B w'))) ∨
  (Region.wanted o (yielded ops.toArray a.tmps) = false ∧ R undef [] w)
def msk {α : Type} (z : α) (ops : List Oper) (i : Nat) (V : Nat → α) : Nat → α := fun j => bif Nat.beq j i || (reach ops (ops.length + 1) i).contains j then V j else z
def gput {α : Type} (V : Nat → α) (i : Nat) (v : α) : Nat → α := fun j => bif Nat.beq j i then v else V j
theorem gput_self {α : Type} (V : Nat → α) (i : Nat) (v : α) : gput V i v i = v := by unfold gput; rw [beq_self]; rfl
theorem gput_ne {α : Type} (V : Nat → α) {i j : Nat} (v : α) (h : j ≠ i) : gput V i v j = V j := by unfold gput; rw [beq_ne h]; rfl
theorem msk_congr {α : Type} {z : α} {ops : List Oper} {i : Nat} {V V' : Nat → α} (h : ∀ j, (j = i ∨ (reach ops (ops.length + 1) i).contains j = true) → V j = V' j) : msk z ops i V = msk z ops i V' := by
  funext j
  unfold msk
  by_cases hji : j = i
  · subst hji
    rw [beq_self]
    simp only [Bool.true_or, cond_true]
    exact h j (.inl rfl)
  · rw [beq_ne hji]
    cases hc : (reach ops (ops.length + 1) i).contains j with
    | false => rfl
    | true => simp only [Bool.false_or, cond_true]; exact h j (.inr hc)
def blks (S : Nat → Bool) (Bl : Nat → List Blk) (t : Nat) : List Blk := (List.range t).flatMap fun i => bif S i then Bl i else []
theorem blks_put {S : Nat → Bool} {Bl : Nat → List Blk} {t i : Nat} (hi : i < t) (hS : S i = false) (B : List Blk) :
    (B ++ blks S Bl t).Perm (blks (fun j => bif Nat.beq j i then true else S j) (gput Bl i B) t) := by
  unfold blks
  have key : ∀ l : List Nat, l.Nodup → i ∈ l → (B ++ l.flatMap fun j => bif S j then Bl j else []).Perm (l.flatMap fun j => bif (bif Nat.beq j i then true else S j) then gput Bl i B j else []) := by
    intro l
    induction l with
    | nil => intro _ h; cases h
    | cons k l ih =>
      intro hn hm
      rw [List.nodup_cons] at hn
      simp only [List.flatMap_cons]
      by_cases hki : k = i
      · subst hki
        rw [beq_self, gput_self, hS]
        simp only [cond_true, cond_false, List.nil_append]
        refine List.Perm.append_left B ?_
        have : (l.flatMap fun j => bif S j then Bl j else []) = l.flatMap fun j => bif (bif Nat.beq j k then true else S j) then gput Bl k B j else [] := by
          have h2 : ∀ j ∈ l, (bif S j then Bl j else []) = bif (bif Nat.beq j k then true else S j) then gput Bl k B j else [] := by
            intro j hj
            have hne : j ≠ k := fun e => hn.1 (e ▸ hj)
            rw [beq_ne hne, gput_ne _ _ hne]
            rfl
          clear ih hn hm
          induction l with
          | nil => rfl
          | cons x l ih => simp only [List.flatMap_cons]; rw [h2 x List.mem_cons_self, ih (fun j hj => h2 j (List.mem_cons_of_mem _ hj))]
        rw [this]
      · rw [beq_ne hki, gput_ne _ _ hki]
        simp only [cond_false]
        have hm' : i ∈ l := by
          rcases List.mem_cons.1 hm with h | h
          · exact absurd h.symm hki
          · exact h
        have h1 := ih hn.2 hm'
        have h3 := List.Perm.append_left (bif S k then Bl k else []) h1
        refine List.Perm.trans ?_ h3
        rw [← List.append_assoc, ← List.append_assoc]
        exact List.Perm.append_right _ List.perm_append_comm
  exact key _ List.nodup_range (List.mem_range.2 hi)
section
variable {P : Program} {Q : Exit → Act → World → Prop} {n : Nat} {ops : List Oper}
def gowe (P : Program) (ops : List Oper) (n : Nat) (w0 : World) (L : (Nat → Bool) → List Blk) (es : List (Nat × Value)) (R : Nat → (Nat → Value) → (Nat → List Blk) → Prop) (i : Nat) (o : Oper) : Prop :=
  ∀ (S : Nat → Bool) (V : Nat → Value) (Bl : Nat → List Blk) (X : List Blk) (a : Act) (w : World), (∀ j, (reach ops (ops.length + 1) i).contains j = true → S j = true) → (∀ k, (reach ops (ops.length + 1) k).contains i = true → S k = false) →
    (∀ j, (reach ops (ops.length + 1) i).contains j = true → R j (msk undef ops j V) (msk [] ops j Bl)) →
    (∀ j, (reach ops (ops.length + 1) i).contains j = true → ∀ e ∈ Bl j, e ∈ X) → Slots a n (predEnv ops o es V) → Mem w0 w (X ++ L S) → (∀ e ∈ X, w0.heap.size ≤ e.b) →
    GYields P ops o a w (fun v B w' => R i (msk undef ops i (gput V i v)) (msk [] ops i (gput Bl i B)) ∧ (∀ e ∈ B, w0.heap.size ≤ e.b) ∧ Mem w0 w' (B ++ (X ++ L (gput S i true))))
def gplan (P : Program) (ops : List Oper) (n : Nat) (w0 : World) (L : (Nat → Bool) → List Blk) (es : List (Nat × Value)) (R : Nat → (Nat → Value) → (Nat → List Blk) → Prop) : List Oper → Nat → Prop
  | [], _ => True
  | o :: rest, i => gowe P ops n w0 L es R i o ∧ gplan P ops n w0 L es R rest (i + 1)
theorem gplan_get {w0 : World} {L : (Nat → Bool) → List Blk} {es : List (Nat × Value)} {R : Nat → (Nat → Value) → (Nat → List Blk) → Prop} : ∀ {l : List Oper} {k : Nat}, gplan P ops n w0 L es R l k → ∀ i o, l[i]? = some o → gowe P ops n w0 L es R (k + i) o
  | [], _, _, i, o, h => by simp at h
  | o' :: l, k, hp, 0, o, h => by simp at h; subst h; exact hp.1
  | o' :: l, k, hp, i + 1, o, h => by
    simp only [List.getElem?_cons_succ] at h
    have := gplan_get hp.2 i o h
    rw [show k + (i + 1) = k + 1 + i by omega]
    exact this
theorem Held.vput {a : Act} {es : List (Nat × Value)} {V : Nat → Value} {S : Nat → Bool} (h : Held a n ops es V S) {i : Nat} (hS : S i = false) (v : Value) : Held a n ops es (gput V i v) S :=
  ⟨h.defers, h.size, h.outer, fun j o d hj hd hSj => by
    have hne : j ≠ i := by intro e; subst e; rw [hS] at hSj; cases hSj
    rw [gput_ne _ _ hne]
    exact h.inner j o d hj hd hSj⟩
set_option maxHeartbeats 1000000 in
theorem c_gplan {id : Nat} {a : Act} {w w0 : World} {E : Nat → Option Value} (t : Nat) (L : (Nat → Bool) → List Blk) (es : List (Nat × Value)) (R : Nat → (Nat → Value) → (Nat → List Blk) → Prop) (hm : P.follows .mixedOrders = true)
    (hB : (lexicalB ops && tailB ops t && dstsOk n ops && outside (ops.take t) es && decide (t ≤ ops.length) && decide (0 < t)) = true) (hS : Slots a n E) (hes : allIn E es) (hM : Mem w0 w (L fun _ => false))
    (h : gplan P ops n w0 L es R (ops.take t) 0)
    (hK : ∀ (V : Nat → Value) (Bl : Nat → List Blk) (a : Act) (w : World), (∀ i, i < t → R i (msk undef ops i V) (msk [] ops i Bl)) → (∀ i, i < t → ∀ e ∈ Bl i, w0.heap.size ≤ e.b) →
      Slots a n (env ((List.range t).filterMap (fun i => ((ops[i]?).bind (·.dst)).map (fun d => (d, V i))) ++ es)) →
      Mem w0 w ((List.range t).flatMap Bl ++ L (fun i => decide (i < t))) → wpList P ops.toArray Q (ops.drop t) a w) :
    (Code.region id ops.toArray true).wp P Q a w := by
  simp only [Bool.and_eq_true, decide_eq_true_eq] at hB
  obtain ⟨⟨⟨⟨⟨hlex, htail⟩, hdst⟩, hout⟩, hle⟩, ht0⟩ := hB
  have hlex' := lexicalB_spec hlex
  have hall : ∀ i o, i < t → ops[i]? = some o → gowe P ops n w0 L es R i o := by
    intro i o hi ho
    have := gplan_get h i o (by rw [List.getElem?_take, if_pos hi]; exact ho)
    simpa using this
  refine wp_region_any hm ?_
  refine wpAny_inv (fun S a w => S.size = ops.length ∧ (∀ i o, ops[i]? = some o → S.getD i false = true → ∀ e ∈ o.after, Region.binds .any e = true → S.getD e.on false = true) ∧
    (((∃ i, i < t ∧ S.getD i false = false) ∧ ∃ V Bl, Held a n ops es V (fun i => S.getD i false && decide (i < t)) ∧ (∀ i, i < t → S.getD i false = true → R i (msk undef ops i V) (msk [] ops i Bl)) ∧
        (∀ i, i < t → S.getD i false = true → ∀ e ∈ Bl i, w0.heap.size ≤ e.b) ∧ Mem w0 w (blks (fun i => S.getD i false) Bl t ++ L (fun i => S.getD i false))) ∨
     (∃ j, t ≤ j ∧ (∀ i, i < j → i < ops.length → S.getD i false = true) ∧ (∀ i, j ≤ i → S.getD i false = false) ∧ wpList P ops.toArray Q (ops.drop j) a w))) ?_ ?_ ?_ _ _ _ _ ?_ ?_
  · intro S a w i hi ⟨hsz, hcl, hI⟩
    obtain ⟨hun, o, ho, hpre⟩ := mem_ready.1 hi
    have ho' : ops[i]? = some o := by simpa using ho
    have hilt : i < ops.length := (List.getElem?_eq_some_iff.1 ho').1
    have hun' : S.getD i false = false := both_of hun
    have hcl' : ∀ k o, ops[k]? = some o → (S.setIfInBounds i true).getD k false = true → ∀ e ∈ o.after, Region.binds .any e = true → (S.setIfInBounds i true).getD e.on false = true := by
      intro k ok hk hSk e he hb
      refine getD_set_true ?_
      by_cases hki : i = k
      · subst hki
        have : ok = o := Option.some.inj (hk.symm.trans ho')
        subst this
        exact hpre e he hb
      · rw [getD_set_ne false hki] at hSk
        exact hcl k ok hk hSk e he hb
    have hreach : ∀ k ok, ops[k]? = some ok → (∀ e ∈ ok.after, Region.binds .any e = true → S.getD e.on false = true) → ∀ j, (reach ops (ops.length + 1) k).contains j = true → S.getD j false = true := by
      intro k ok hk hp j hj
      exact reach_closed (S := fun k => S.getD k false) hcl _ k (fun o2 ho2 e he hb => by
        have : o2 = ok := Option.some.inj (ho2.symm.trans hk)
        subst this
        exact hp e he hb) j (by simpa using hj)
    have hsink : t ≤ i → ∀ j, j < i → S.getD j false = true := by
      intro hti j hji
      have h1 := List.all_eq_true.1 htail i (List.mem_range.2 hilt)
      simp only [Bool.or_eq_true, decide_eq_true_eq] at h1
      rcases h1 with h1 | h1
      · omega
      · exact hreach i o ho' hpre j (List.all_eq_true.1 h1 j (List.mem_range.2 hji))
    rcases hI with ⟨⟨k, hkt, hk⟩, V, Bl, hH, hR, hN, hMw⟩ | ⟨j, htj, hj1, hj2, hwp⟩
    · have hit : i < t := by
        rcases Nat.lt_or_ge i t with h | h
        · exact h
        · have := hsink h k (by omega)
          rw [hk] at this; cases this
      have hrl : ∀ j, (reach ops (ops.length + 1) i).contains j = true → j < t ∧ S.getD j false = true := by
        intro j hj
        have hSj := hreach i o ho' hpre j hj
        have hji : j < i := by
          have key : ∀ (f k : Nat), (∀ ok, ops[k]? = some ok → ∀ e ∈ ok.after, Region.binds .any e = true → e.on < k) → ∀ j ∈ reach ops f k, j < k := by
            intro f
            induction f with
            | zero => intro k _ j hj; simp [reach] at hj
            | succ f ih =>
              intro k hk j hj
              simp only [reach] at hj
              cases hok : ops[k]? with
              | none => simp [hok] at hj
              | some ok =>
                simp only [hok, List.mem_flatMap] at hj
                obtain ⟨e, he, hj⟩ := hj
                split at hj
                · rename_i hb
                  have hlt := hk ok hok e (Array.mem_toList_iff.1 he) hb
                  rcases List.mem_cons.1 hj with rfl | hj
                  · exact hlt
                  · have := ih e.on (fun ok' hok' e' he' hb' => hlex' e.on ok' hok' e' he' hb') j hj
                    omega
                · cases hj
          exact key _ i (fun ok hok e he hb => hlex' i ok hok e he hb) j (by simpa using hj)
        exact ⟨by omega, hSj⟩
      have hfresh : ∀ e ∈ blks (fun i => S.getD i false) Bl t, w0.heap.size ≤ e.b := by
        intro e he
        unfold blks at he
        obtain ⟨j, hj, he⟩ := List.mem_flatMap.1 he
        simp only at he
        cases hSj : S.getD j false with
        | false => rw [hSj] at he; cases he
        | true => rw [hSj] at he; exact hN j (List.mem_range.1 hj) hSj e he
      have hY := hall i o hit ho' (fun i => S.getD i false) V Bl (blks (fun i => S.getD i false) Bl t) a w (fun j hj => (hrl j hj).2)
        (fun k hk => by
          cases hSk : S.getD k false with
          | false => rfl
          | true =>
            exfalso
            have hkl : k < ops.length := by
              rcases Nat.lt_or_ge k ops.length with h | h
              · exact h
              · rw [Array.getD_eq_getD_getElem?, Array.getElem?_eq_none (by omega)] at hSk
                cases hSk
            have h3 := hreach k ops[k] (List.getElem?_eq_getElem hkl) (hcl k ops[k] (List.getElem?_eq_getElem hkl) hSk) i hk
            rw [hun'] at h3; cases h3)
        (fun j hj => hR j (hrl j hj).1 (hrl j hj).2)
        (fun j hj e he => List.mem_flatMap.2 ⟨j, List.mem_range.2 (hrl j hj).1, by simp only; rw [(hrl j hj).2]; exact he⟩)
        (hH.slots (o := o) (fun e he hb => by
          have h1 := hpre e he hb
          have h2 := hlex' i o ho' e he hb
          simp only [h1, Bool.true_and, decide_eq_true_eq]
          omega)) hMw hfresh
      have heq : ∀ k, (S.setIfInBounds i true).getD k false = (bif Nat.beq k i then true else S.getD k false) := by
        intro k
        by_cases hki : k = i
        · subst hki
          rw [show Nat.beq k k = true from beq_self _]
          have : k < S.size := by omega
          simp [Array.getD_eq_getD_getElem?, this]
        · rw [beq_ne hki, getD_set_ne false (fun e => hki e.symm)]
          rfl
      have hnext : ∀ v B w', (R i (msk undef ops i (gput V i v)) (msk [] ops i (gput Bl i B)) ∧ (∀ e ∈ B, w0.heap.size ≤ e.b) ∧ Mem w0 w' (B ++ (blks (fun i => S.getD i false) Bl t ++ L (gput (fun i => S.getD i false) i true)))) → (S.setIfInBounds i true).size = ops.length ∧ (∀ k o, ops[k]? = some o → (S.setIfInBounds i true).getD k false = true → ∀ e ∈ o.after, Region.binds .any e = true → (S.setIfInBounds i true).getD e.on false = true) ∧
          (((∃ i', i' < t ∧ (S.setIfInBounds i true).getD i' false = false) ∧ ∃ V Bl, Held (a.put o.dst v) n ops es V (fun i' => (S.setIfInBounds i true).getD i' false && decide (i' < t)) ∧ (∀ i', i' < t → (S.setIfInBounds i true).getD i' false = true → R i' (msk undef ops i' V) (msk [] ops i' Bl)) ∧
              (∀ i', i' < t → (S.setIfInBounds i true).getD i' false = true → ∀ e ∈ Bl i', w0.heap.size ≤ e.b) ∧ Mem w0 w' (blks (fun i' => (S.setIfInBounds i true).getD i' false) Bl t ++ L (fun i' => (S.setIfInBounds i true).getD i' false))) ∨
           (∃ j, t ≤ j ∧ (∀ i', i' < j → i' < ops.length → (S.setIfInBounds i true).getD i' false = true) ∧ (∀ i', j ≤ i' → (S.setIfInBounds i true).getD i' false = false) ∧ wpList P ops.toArray Q (ops.drop j) (a.put o.dst v) w')) := by
        rintro v B w' ⟨hRi, hBn, hMB⟩
        refine ⟨by simpa using hsz, hcl', ?_⟩
        have hH1 := (hH.vput (i := i) (by simp only [hun', Bool.false_and]) v).done (outside_spec hout (mem_take hit ho')) hdst ho'
        rw [gput_self] at hH1
        have hH'' : Held (a.put o.dst v) n ops es (gput V i v) (fun k => (S.setIfInBounds i true).getD k false && decide (k < t)) := by
          refine ⟨hH1.defers, hH1.size, hH1.outer, fun k ok d hk hd hSk => hH1.inner k ok d hk hd ?_⟩
          simp only [Bool.and_eq_true, decide_eq_true_eq, heq] at hSk
          cases hb : Nat.beq k i with
          | true => rfl
          | false => rw [hb] at hSk; simp only [cond_false] at hSk ⊢; simp [hSk.1, hSk.2]
        have hR' : ∀ i', i' < t → (S.setIfInBounds i true).getD i' false = true → R i' (msk undef ops i' (gput V i v)) (msk [] ops i' (gput Bl i B)) := by
          intro i' hi' hSi'
          by_cases hii : i' = i
          · subst hii; exact hRi
          · rw [getD_set_ne false (fun e => hii e.symm)] at hSi'
            have hne : ∀ j, (j = i' ∨ (reach ops (ops.length + 1) i').contains j = true) → j ≠ i := by
              rintro j (rfl | hj) e
              · exact hii e
              · subst e
                obtain ⟨oi', hoi'⟩ : ∃ oi', ops[i']? = some oi' := ⟨ops[i']'(by omega), by simp⟩
                have := hreach i' oi' hoi' (hcl i' oi' hoi' hSi') j hj
                rw [hun'] at this; cases this
            rw [msk_congr (V := gput V i v) (V' := V) (fun j hj => gput_ne _ _ (hne j hj)), msk_congr (V := gput Bl i B) (V' := Bl) (fun j hj => gput_ne _ _ (hne j hj))]
            exact hR i' hi' hSi'
        have hN' : ∀ i', i' < t → (S.setIfInBounds i true).getD i' false = true → ∀ e ∈ gput Bl i B i', w0.heap.size ≤ e.b := by
          intro i' hi' hSi' e he
          by_cases hii : i' = i
          · subst hii
            rw [gput_self] at he
            exact hBn e he
          · rw [gput_ne _ _ hii] at he
            rw [getD_set_ne false (fun e => hii e.symm)] at hSi'
            exact hN i' hi' hSi' e he
        have hSS : (fun i' => (S.setIfInBounds i true).getD i' false) = (fun j => bif Nat.beq j i then true else S.getD j false) := funext heq
        have hMw' : Mem w0 w' (blks (fun i' => (S.setIfInBounds i true).getD i' false) (gput Bl i B) t ++ L (fun i' => (S.setIfInBounds i true).getD i' false)) := by
          rw [hSS]
          refine hMB.perm ?_
          rw [← List.append_assoc]
          exact List.Perm.append_right _ (blks_put (S := fun k => S.getD k false) (Bl := Bl) hit hun' B)
        by_cases hmore : ∃ k, k < t ∧ (S.setIfInBounds i true).getD k false = false
        · exact .inl ⟨hmore, _, _, hH'', hR', hN', hMw'⟩
        · have hfull : ∀ k, k < t → (S.setIfInBounds i true).getD k false = true := by
            intro k hk
            cases hb : (S.setIfInBounds i true).getD k false with
            | true => rfl
            | false => exact absurd ⟨k, hk, hb⟩ hmore
          have hnot : ∀ k, t ≤ k → (S.setIfInBounds i true).getD k false = false := by
            intro k hk
            have hki : i ≠ k := by omega
            rw [getD_set_ne false hki]
            cases hb : S.getD k false with
            | false => rfl
            | true =>
              exfalso
              have hkl : k < ops.length := by
                rcases Nat.lt_or_ge k ops.length with h | h
                · exact h
                · rw [Array.getD_eq_getD_getElem?, Array.getElem?_eq_none (by omega)] at hb
                  cases hb
              have h1 := List.all_eq_true.1 htail k (List.mem_range.2 hkl)
              simp only [Bool.or_eq_true, decide_eq_true_eq] at h1
              rcases h1 with h1 | h1
              · omega
              · have h2 := List.all_eq_true.1 h1 i (List.mem_range.2 (by omega))
                obtain ⟨ok, hok⟩ : ∃ ok, ops[k]? = some ok := ⟨ops[k], by simp⟩
                have := hreach k ok hok (hcl k ok hok hb) i h2
                rw [hun'] at this; cases this
          refine .inr ⟨t, Nat.le_refl _, fun k hk _ => hfull k hk, hnot, ?_⟩
          · refine hK _ _ _ _ (fun i' hi' => hR' i' hi' (hfull i' hi')) (fun i' hi' => hN' i' hi' (hfull i' hi')) ⟨hH''.defers, hH''.size, fun d u hv => ?_⟩ ?_
            · rcases env_append_spec hv with ⟨p, hp, h1, h2⟩ | hv
              · rw [List.mem_filterMap] at hp
                obtain ⟨k, hk, hpk⟩ := hp
                have hkt := List.mem_range.1 hk
                cases hok : ops[k]? with
                | none => simp [hok] at hpk
                | some ok =>
                  cases hdk : ok.dst with
                  | none => simp [hok, hdk] at hpk
                  | some dk =>
                    simp [hok, hdk] at hpk
                    subst hpk
                    simp only at h1 h2
                    subst h1 h2
                    refine hH''.inner k ok dk hok hdk ?_
                    simp only [hfull k hkt, hkt, decide_true, Bool.and_self]
              · exact hH''.outer d u hv
            · have h4 : blks (fun i' => (S.setIfInBounds i true).getD i' false) (gput Bl i B) t = (List.range t).flatMap (gput Bl i B) := by
                unfold blks
                have : ∀ l : List Nat, (∀ k ∈ l, k < t) → (l.flatMap fun i' => bif (S.setIfInBounds i true).getD i' false then gput Bl i B i' else []) = l.flatMap (gput Bl i B) := by
                  intro l
                  induction l with
                  | nil => intro _; rfl
                  | cons x l ih =>
                    intro hl
                    simp only [List.flatMap_cons]
                    rw [hfull x (hl x List.mem_cons_self), ih (fun k hk => hl k (List.mem_cons_of_mem _ hk))]
                    rfl
                exact this _ (fun k hk => List.mem_range.1 hk)
              have h5 : (fun i' => (S.setIfInBounds i true).getD i' false) = fun i => decide (i < t) := by
                funext k
                by_cases hk : k < t
                · rw [hfull k hk]; simp [hk]
                · rw [hnot k (by omega)]; simp [hk]
              rw [← h4, ← h5]
              exact hMw'
      unfold wpOp
      simp only [ho]
      rcases hY with ⟨hw, hY⟩ | ⟨hw, hv⟩
      · rw [if_pos hw]
        refine .inl ?_
        unfold Oper.wp
        rcases hY with ⟨v, w', B, hY | ⟨hY, hnd, rfl⟩, hRi⟩ | ⟨f, args, hY, hcall⟩
        · rw [hY]
          exact hnext v B w' hRi
        · rw [hY, Oper.upon_skip]
          exact hnext undef B w' hRi
        · rw [hY, Oper.upon_enter]
          refine hcall.mono ?_
          rintro e w' ⟨v, B, rfl, hRi⟩
          exact hnext v B w' hRi
      · rw [if_neg (by rw [hw]; simp)]
        exact hnext undef [] w hv
    · have hij : i = j := by
        rcases Nat.lt_trichotomy i j with h | h | h
        · have := hj1 i h hilt
          rw [hun'] at this; cases this
        · exact h
        · have := hsink (by omega) j h
          rw [hj2 j (Nat.le_refl _)] at this; cases this
      subst hij
      have hdrop : ops.drop i = o :: ops.drop (i + 1) := by
        rw [List.drop_eq_getElem_cons hilt]
        congr 1
        exact Option.some.inj ((List.getElem?_eq_getElem hilt).symm.trans ho')
      rw [hdrop] at hwp
      have hgo : ∀ a' w', wpList P ops.toArray Q (ops.drop (i + 1)) a' w' → (S.setIfInBounds i true).size = ops.length ∧ (∀ k o, ops[k]? = some o → (S.setIfInBounds i true).getD k false = true → ∀ e ∈ o.after, Region.binds .any e = true → (S.setIfInBounds i true).getD e.on false = true) ∧
          (((∃ i', i' < t ∧ (S.setIfInBounds i true).getD i' false = false) ∧ ∃ V Bl, Held a' n ops es V (fun i' => (S.setIfInBounds i true).getD i' false && decide (i' < t)) ∧ (∀ i', i' < t → (S.setIfInBounds i true).getD i' false = true → R i' (msk undef ops i' V) (msk [] ops i' Bl)) ∧
              (∀ i', i' < t → (S.setIfInBounds i true).getD i' false = true → ∀ e ∈ Bl i', w0.heap.size ≤ e.b) ∧ Mem w0 w' (blks (fun i' => (S.setIfInBounds i true).getD i' false) Bl t ++ L (fun i' => (S.setIfInBounds i true).getD i' false))) ∨
           (∃ j, t ≤ j ∧ (∀ i', i' < j → i' < ops.length → (S.setIfInBounds i true).getD i' false = true) ∧ (∀ i', j ≤ i' → (S.setIfInBounds i true).getD i' false = false) ∧ wpList P ops.toArray Q (ops.drop j) a' w')) := by
        intro a' w' h
        refine ⟨by simpa using hsz, hcl', .inr ⟨i + 1, by omega, ?_, ?_, h⟩⟩
        · intro k hk hkl
          by_cases hki : i = k
          · subst hki
            have : i < S.size := by omega
            simp [Array.getD_eq_getD_getElem?, this]
          · exact getD_set_true (hj1 k (by omega) hkl)
        · intro k hk
          rw [getD_set_ne false (by omega)]
          exact hj2 k (by omega)
      unfold wpOp
      simp only [ho]
      unfold wpList at hwp
      split at hwp
      · rename_i hw
        rw [if_pos hw]
        rcases hwp with h | h
        · exact .inl (Oper.wp_mono (fun a' w' h => hgo a' w' h) h)
        · exact .inr h
      · rename_i hw
        rw [if_neg hw]
        exact hgo _ _ hwp
  · intro S a w hr ⟨hsz, hcl, hI⟩
    have hfull : ∀ i, i < ops.length → S.getD i false = true := by
      intro i
      induction i using Nat.strongRecOn with
      | _ i ih =>
        intro hi
        cases hb : S.getD i false with
        | true => rfl
        | false =>
          exfalso
          have : i ∈ Region.ready .any ops.toArray S := by
            rw [mem_ready]
            refine ⟨in_of (by omega) hb, ops[i], by simp [hi], fun e he hbi => ?_⟩
            have hlt := hlex' i ops[i] (List.getElem?_eq_getElem hi) e he hbi
            exact ih e.on hlt (by omega)
          rw [hr] at this; cases this
    rcases hI with ⟨⟨k, hkt, hk⟩, _⟩ | ⟨j, htj, hj1, hj2, hwp⟩
    · rw [hfull k (by omega)] at hk; cases hk
    · have : ops.length ≤ j := by
        rcases Nat.lt_or_ge j ops.length with h | h
        · have := hj2 j (Nat.le_refl _); rw [hfull j h] at this; cases this
        · exact h
      rw [List.drop_eq_nil_of_le this] at hwp
      exact hwp
  · intro S a w hI
    simpa using hI.1
  · simpa using (List.length_filter_le _ (List.range ops.length))
  · have hrep : ∀ i, (Array.replicate ops.toArray.size false).getD i false = false := fun i => replicate_false _ _
    refine ⟨by simp, fun i o _ hi => (by rw [hrep] at hi; cases hi), .inl ⟨⟨0, ht0, hrep 0⟩, fun _ => undef, fun _ => [], ?_, ?_, ?_, ?_⟩⟩
    · refine ⟨hS.defers, hS.size, fun i v hv => (hS.to es hes).get i v hv, fun i o d _ _ hi => ?_⟩
      simp only [Bool.and_eq_true] at hi
      rw [hrep] at hi; cases hi.1
    · intro i _ hi; rw [hrep] at hi; cases hi
    · intro i _ hi; rw [hrep] at hi; cases hi
    · have : blks (fun i => (Array.replicate ops.toArray.size false).getD i false) (fun _ => []) t = [] := by
        unfold blks
        rw [List.flatMap_eq_nil_iff]
        intro i _
        simp only
        rw [hrep]
        rfl
      have h6 : (fun i => (Array.replicate ops.toArray.size false).getD i false) = fun _ => false := funext hrep
      rw [this, h6]
      exact hM.drawn _
end
section
variable {P : Program} {ops : List Oper} {n : Nat} {o : Oper} {a : Act} {w w0 : World} {R : Value → List Blk → World → Prop} {E : Nat → Option Value} {v : Value}
theorem gy_val (hg : o.guard = none) (hr : Run P a o w v) (hR : R v [] w) : GYields P ops o a w R := .inl ⟨by simp [Region.wanted, hg], .inl ⟨v, w, [], .inl hr, hR⟩⟩
theorem gy_new {w' : World} {B : List Blk} (hg : o.guard = none) (hr : (execOp a.eval o).run P w = .ok (.value v) w') (hR : R v B w') : GYields P ops o a w R := .inl ⟨by simp [Region.wanted, hg], .inl ⟨v, w', B, .inl hr, hR⟩⟩
variable {dst : Option Nat} {ty : TypeId} {pos : String} {af : Array Edge} {g : Option (Nat × Bool)}
theorem gy_alloc {t : TypeId} {cs : List Value} (hz : Zero P t cs) (hR : R (ptr w.heap.size 0) [⟨w.heap.size, t, cs⟩] (w.alloc (.cells cs.toArray t (0, 0)))) : GYields P ops ⟨dst, .alloc t, ty, pos, af, none⟩ a w R :=
  gy_new rfl (by simp [execOp, hz w]) hR
theorem gy_call {f : FuncId} {xs : List Operand} {ats : Array TypeId} {vs : List Value} (hf : callable P f = true) (hS : Slots a n E) (hx : evs E xs = some vs) (hc : Calls P f vs.toArray w fun e w' => ∃ v B, e = .returned v ∧ R v B w') :
    GYields P ops ⟨dst, .call ⟨.value (.func f), xs.toArray, ats⟩, ty, pos, af, none⟩ a w R :=
  .inl ⟨by simp [Region.wanted], .inr ⟨f, _, run_call hf hS hx, hc⟩⟩
theorem gy_pure {f : FuncId} {xs : List Operand} {ats : Array TypeId} {vs : List Value} {L : List Blk} (hS : Slots a n E) (hx : evs E xs = some vs) (hc : Pure P f vs.toArray w v) (hM : Mem w0 w L) (hR : ∀ w', Mem w0 w' L → R v [] w') :
    GYields P ops ⟨dst, .call ⟨.value (.func f), xs.toArray, ats⟩, ty, pos, af, none⟩ a w R :=
  gy_call hc.ok hS hx (hc.calls.mono fun _ _ ⟨he, hm⟩ => ⟨v, [], he, hR _ (hM.after hm)⟩)
end
end Go.Sym
