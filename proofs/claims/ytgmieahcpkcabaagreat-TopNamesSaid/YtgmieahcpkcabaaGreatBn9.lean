import Derived.Test.YtgmieahcpkcabaaGreatBn8
import Derived.Test.YtgmieahcpkcabaaGreatBn2
import Derived.Test.YtgmieahcpkcabaaGreatProg
import Derived.Test.YtgmieahcpkcabaaGreatBn4
namespace Go.Sym
open Go
structure PS where
  x : Nat → BitVec 64
  y : Nat → BitVec 64
  z : Nat → BitVec 64
  t : Nat → BitVec 64
def pC (m : Bool) (p : PS) : List Value := [.bool m] ++ cU 5 p.x ++ (cU 5 p.y ++ (cU 5 p.z ++ cU 5 p.t))
def nilP : PS := ⟨fun _ => 0, fun _ => 0, fun _ => 0, fun _ => 0⟩
section
variable (m : Bool) (p : PS)
theorem pC_len : (pC m p).length = 21 := by simp [pC, cells_len]
theorem pC_m : (pC m p)[0]? = some (.bool m) := rfl
theorem pC_x : pC m p = [.bool m] ++ cU 5 p.x ++ (cU 5 p.y ++ (cU 5 p.z ++ cU 5 p.t)) := rfl
theorem pC_y : pC m p = ([.bool m] ++ cU 5 p.x) ++ cU 5 p.y ++ (cU 5 p.z ++ cU 5 p.t) := by unfold pC; simp
theorem pC_z : pC m p = ([.bool m] ++ cU 5 p.x ++ cU 5 p.y) ++ cU 5 p.z ++ cU 5 p.t := by unfold pC; simp
theorem pC_t : pC m p = ([.bool m] ++ cU 5 p.x ++ cU 5 p.y ++ cU 5 p.z) ++ cU 5 p.t ++ [] := by unfold pC; simp
theorem pC_one : ∀ v ∈ pC m p, v.oneCell' = true := fun v hv => by
  unfold pC at hv
  simp only [List.mem_append, List.mem_singleton] at hv
  rcases hv with (rfl | h) | h | h | h
  · rfl
  all_goals exact cU_one v h
theorem pC_set_x (x : Nat → BitVec 64) : splice (pC m p) 1 (cU 5 x) = pC m { p with x := x } := by
  rw [pC_x, pC_x]
  exact splice_spec (cU 5 x) [.bool m] (cU 5 p.x) _ (by rw [cells_len, cells_len])
theorem pC_set_t (x : Nat → BitVec 64) : splice (pC m p) 16 (cU 5 x) = pC m { p with t := x } := by
  rw [pC_t, pC_t]
  exact splice_spec (cU 5 x) ([.bool m] ++ cU 5 p.x ++ cU 5 p.y ++ cU 5 p.z) (cU 5 p.t) [] (by rw [cells_len, cells_len])
end
def oneX : Nat → BitVec 64 := limb51 (1#64).toNat
def edgeB : Nat → BitVec 8 := lst 0 [0xa3#8, 0x78#8, 0x59#8, 0x13#8, 0xca#8, 0x4d#8, 0xeb#8, 0x75#8, 0xab#8, 0xd8#8, 0x41#8, 0x41#8, 0x4d#8, 0x0a#8, 0x70#8, 0x00#8, 0x98#8, 0xe8#8, 0x79#8, 0x77#8, 0x79#8, 0x40#8, 0xc7#8, 0x8c#8, 0x73#8, 0xfe#8, 0x6f#8, 0x2b#8, 0xee#8, 0x6c#8, 0x03#8, 0x52#8]
def edgeX : Nat → BitVec 64 := limb51 (natB edgeB 32)
def affP (x y : Nat → BitVec 64) : PS := ⟨x, y, oneX, feMul x y⟩
def zeroP : PS := affP (fun _ => 0) oneX
def rootX (y : Nat → BitVec 64) : (Nat → BitVec 64) × Bool := ratioX (feSub (feMul y y) oneX) (feAdd (feMul edgeX (feMul y y)) oneX)
def baseY : Nat → BitVec 64 := feMul (limb51 (4#64).toNat) (invX (limb51 (5#64).toNat))
def baseP : PS := affP (rootX baseY).1 baseY
def crossP (e f g h : Nat → BitVec 64) : PS := ⟨feMul e f, feMul g h, feMul f g, feMul e h⟩
def aX (p q : PS) : Nat → BitVec 64 := feMul (feSub p.y p.x) (feSub q.y q.x)
def bX (p q : PS) : Nat → BitVec 64 := feMul (feAdd p.y p.x) (feAdd q.y q.x)
def cX (p q : PS) : Nat → BitVec 64 := feAdd (feMul (feMul p.t q.t) edgeX) (feMul (feMul p.t q.t) edgeX)
def dX (p q : PS) : Nat → BitVec 64 := feAdd (feMul p.z q.z) (feMul p.z q.z)
def addP (p q : PS) : PS := crossP (feSub (bX p q) (aX p q)) (feSub (dX p q) (cX p q)) (feAdd (dX p q) (cX p q)) (feAdd (bX p q) (aX p q))
def negP (p : PS) : PS := { p with x := feSub (fun _ => 0) p.x, t := feSub (fun _ => 0) p.t }
def plX (p : PS) : Nat → BitVec 64 := feMul p.x (invX p.z)
def plY (p : PS) : Nat → BitVec 64 := feMul p.y (invX p.z)
def encB (p : PS) : Nat → BitVec 8 := if val (plX p) % pP % 2 = 1 then upd (byt (val (plY p) % pP)) 31 (byt (val (plY p) % pP) 31 ||| 128#8) else byt (val (plY p) % pP)
structure PS.Ok (p : PS) : Prop where
  x : Go.Sym.Ok p.x
  y : Go.Sym.Ok p.y
  z : Go.Sym.Ok p.z
  t : Go.Sym.Ok p.t
theorem ok_mul {x y : Nat → BitVec 64} (hx : Ok x) (hy : Ok y) : Ok (feMul x y) := (mul_law hx hy).1
theorem ok_add {x y : Nat → BitVec 64} (hx : Ok x) (hy : Ok y) : Ok (feAdd x y) := (feAdd_ok hx hy).1
theorem ok_sub {x y : Nat → BitVec 64} (hx : Ok x) (hy : Ok y) : Ok (feSub x y) := (feSub_ok hx hy).1
theorem ok_inv {x : Nat → BitVec 64} (hx : Ok x) : Ok (invX x) := (Tw.self hx).inv.ok
theorem ok_ratio {x y : Nat → BitVec 64} (hx : Ok x) (hy : Ok y) : Ok (ratioX x y).1 := (Tw.ratio (Tw.self hx) (Tw.self hy)).1.ok
theorem ok_one : Ok oneX := limb51_ok _
theorem ok_edge : Ok edgeX := limb51_ok _
theorem ok_root {y : Nat → BitVec 64} (hy : Ok y) : Ok (rootX y).1 := ok_ratio (ok_sub (ok_mul hy hy) ok_one) (ok_add (ok_mul ok_edge (ok_mul hy hy)) ok_one)
theorem ok_root1 {y : Nat → BitVec 64} (hy : Ok y) : Ok (feSub (feMul y y) oneX) := ok_sub (ok_mul hy hy) ok_one
theorem ok_root2 {y : Nat → BitVec 64} (hy : Ok y) : Ok (feAdd (feMul edgeX (feMul y y)) oneX) := ok_add (ok_mul ok_edge (ok_mul hy hy)) ok_one
theorem ok_baseY : Ok baseY := ok_mul (limb51_ok _) (ok_inv (limb51_ok _))
theorem ok_plX {p : PS} (hp : p.Ok) : Ok (plX p) := ok_mul hp.x (ok_inv hp.z)
theorem ok_plY {p : PS} (hp : p.Ok) : Ok (plY p) := ok_mul hp.y (ok_inv hp.z)
def mulP (n : Nat) (p : PS) : Nat → PS
  | 0 => zeroP
  | k + 1 => if n / 2 ^ (255 - k) % 2 = 1 then addP (addP (mulP n p k) (mulP n p k)) p else addP (mulP n p k) (mulP n p k)
theorem mulP_one {n : Nat} {p : PS} {k : Nat} (h : n / 2 ^ (255 - k) % 2 = 1) : mulP n p (k + 1) = addP (addP (mulP n p k) (mulP n p k)) p := if_pos h
theorem mulP_none {n : Nat} {p : PS} {k : Nat} (h : ¬ n / 2 ^ (255 - k) % 2 = 1) : mulP n p (k + 1) = addP (mulP n p k) (mulP n p k) := if_neg h
def bothP (p : PS) : Nat → PS
  | 0 => zeroP
  | 1 => p
  | 2 => baseP
  | _ => addP p baseP
def twoK (a b k : Nat) : Nat := a / 2 ^ (255 - k) % 2 + 2 * (b / 2 ^ (255 - k) % 2)
def twoP (a b : Nat) (p : PS) : Nat → PS
  | 0 => zeroP
  | k + 1 => if 0 < twoK a b k then addP (addP (twoP a b p k) (twoP a b p k)) (bothP p (twoK a b k)) else addP (twoP a b p k) (twoP a b p k)
theorem twoP_some {a b k : Nat} {p : PS} (h : 0 < twoK a b k) : twoP a b p (k + 1) = addP (addP (twoP a b p k) (twoP a b p k)) (bothP p (twoK a b k)) := if_pos h
theorem twoP_none {a b k : Nat} {p : PS} (h : ¬ 0 < twoK a b k) : twoP a b p (k + 1) = addP (twoP a b p k) (twoP a b p k) := if_neg h
theorem twoK_lt (a b k : Nat) : twoK a b k < 4 := by unfold twoK; omega
def rowP (p : PS) : List Value := pC true zeroP ++ pC true p ++ pC true baseP ++ pC true (addP p baseP)
theorem rowP_len (p : PS) : (rowP p).length = 84 := by simp [rowP, pC_len]
theorem rowP_at (p : PS) {k : Nat} (h : k < 4) : ∃ pre post, rowP p = pre ++ pC true (bothP p k) ++ post ∧ pre.length = k * 21 := by
  obtain rfl | rfl | rfl | rfl : k = 0 ∨ k = 1 ∨ k = 2 ∨ k = 3 := by omega
  · exact ⟨[], pC true p ++ pC true baseP ++ pC true (addP p baseP), by unfold rowP bothP; simp, rfl⟩
  · exact ⟨pC true zeroP, pC true baseP ++ pC true (addP p baseP), by unfold rowP bothP; simp, by rw [pC_len]⟩
  · exact ⟨pC true zeroP ++ pC true p, pC true (addP p baseP), by unfold rowP bothP; simp, by rw [List.length_append, pC_len, pC_len]⟩
  · exact ⟨pC true zeroP ++ pC true p ++ pC true baseP, [], by unfold rowP bothP; simp, by rw [List.length_append, List.length_append, pC_len, pC_len, pC_len]⟩
theorem rowP_one (p : PS) : ∀ v ∈ rowP p, v.oneCell' = true := fun v hv => by
  unfold rowP at hv
  simp only [List.mem_append] at hv
  rcases hv with ((h | h) | h) | h <;> exact pC_one _ _ v h
def rowZ : List Value := pC false nilP ++ pC false nilP ++ pC false nilP ++ pC false nilP
theorem rowZ_len : rowZ.length = 84 := by simp [rowZ, pC_len]
theorem bitZ_le (f : Nat → BitVec 8) (i : Int) : bitZ f i ≤ 1 := by unfold bitZ; split <;> omega
theorem twoK_eq (f g : Nat → BitVec 8) {k : Nat} (h : k ≤ 255) : bitZ f ((255 - k : Nat) : Int) + 2 * bitZ g ((255 - k : Nat) : Int) = twoK (natB f 32) (natB g 32) k := by
  rw [bitZ_at _ _ (by omega), bitZ_at _ _ (by omega)]; rfl
end Go.Sym
namespace Go.Sym
open Go
def fo {α : Type} (n : Nat) (k : Nat → α) : α := Nat.rec (motive := fun _ => α) (k 0) (fun m _ => k (m + 1)) n
theorem fo_eq {α : Type} (n : Nat) (k : Nat → α) : fo n k = k n := by cases n <;> rfl
structure NP where
  x : Nat
  y : Nat
  z : Nat
  t : Nat
def dN : Nat := 37095705934669439343138083508754565189542113879843219016388785533085940283555
theorem dN_eq : natB edgeB 32 % 2 ^ 255 % pP = dN := by decide +kernel
def mkN (x y z t : Nat) : NP := fo x fun x => fo y fun y => fo z fun z => fo t fun t => ⟨x, y, z, t⟩
theorem mkN_eq (x y z t : Nat) : mkN x y z t = ⟨x, y, z, t⟩ := by unfold mkN; rw [fo_eq, fo_eq, fo_eq, fo_eq]
def sbN (m n : Nat) : Nat := (m + pP - n) % pP
def crossN (e f g h : Nat) : NP := mkN (e * f % pP) (g * h % pP) (f * g % pP) (e * h % pP)
def addN (p q : NP) : NP :=
  fo (sbN p.y p.x * sbN q.y q.x % pP) fun a => fo ((p.y + p.x) % pP * ((q.y + q.x) % pP) % pP) fun b =>
  fo (p.t * q.t % pP * dN % pP) fun m => fo ((m + m) % pP) fun c => fo (p.z * q.z % pP) fun n => fo ((n + n) % pP) fun d =>
  fo (sbN b a) fun e => fo (sbN d c) fun f => fo ((d + c) % pP) fun g => fo ((b + a) % pP) fun h => crossN e f g h
structure PW (p : PS) (q : NP) : Prop where
  x : Tw p.x q.x
  y : Tw p.y q.y
  z : Tw p.z q.z
  t : Tw p.t q.t
theorem PW.ok {p : PS} {q : NP} (h : PW p q) : p.Ok := ⟨h.x.ok, h.y.ok, h.z.ok, h.t.ok⟩
theorem tw_edge : Tw edgeX dN := by have h := Tw.read edgeB; rw [dN_eq] at h; exact h
theorem tw_one : Tw oneX 1 := Tw.small 1#64
theorem PW.cross {e f g h : Nat → BitVec 64} {e' f' g' h' : Nat} (h1 : Tw e e') (h2 : Tw f f') (h3 : Tw g g') (h4 : Tw h h') : PW (crossP e f g h) (crossN e' f' g' h') := by
  unfold crossN
  rw [mkN_eq]
  exact ⟨h1.mul h2, h3.mul h4, h2.mul h3, h1.mul h4⟩
theorem PW.add {p q : PS} {m n : NP} (hp : PW p m) (hq : PW q n) : PW (addP p q) (addN m n) := by
  unfold addN
  simp only [fo_eq]
  have ha : Tw (aX p q) _ := (hp.y.sub hp.x).mul (hq.y.sub hq.x)
  have hb : Tw (bX p q) _ := (hp.y.add hp.x).mul (hq.y.add hq.x)
  have hm := (hp.t.mul hq.t).mul tw_edge
  have hc : Tw (cX p q) _ := hm.add hm
  have hz := hp.z.mul hq.z
  have hd : Tw (dX p q) _ := hz.add hz
  exact .cross (hb.sub ha) (hd.sub hc) (hd.add hc) (hb.add ha)
def affN (x y : Nat) : NP := mkN x y 1 (x * y % pP)
theorem PW.aff {x y : Nat → BitVec 64} {m n : Nat} (hx : Tw x m) (hy : Tw y n) : PW (affP x y) (affN m n) := by
  unfold affN
  rw [mkN_eq]
  exact ⟨hx, hy, tw_one, hx.mul hy⟩
def zeroN : NP := affN 0 1
theorem PW.zero : PW zeroP zeroN := .aff Tw.zero tw_one
def negN (p : NP) : NP := mkN (sbN 0 p.x) p.y p.z (sbN 0 p.t)
theorem PW.neg {p : PS} {q : NP} (h : PW p q) : PW (negP p) (negN q) := by
  unfold negN
  rw [mkN_eq]
  exact ⟨h.x.neg, h.y, h.z, h.t.neg⟩
def pwC (n E : Nat) : Nat := pm pP 256 n E
theorem pwC_eq (n : Nat) {E : Nat} (h : E < 2 ^ 256) : pw n E = pwC n E := pw_pm h rfl
theorem eS_lt : eS < 2 ^ 256 := by decide +kernel
def iC : Nat := 19681161376707505956807079304988542015446066515923890162744021073123829784752
theorem iC_eq : iN = iC := by rw [iN_eq, pwC_eq _ eQ_lt]; decide +kernel
def outC (n : Nat) : Nat × Bool := fo (pwC n eS) fun r => fo (bif Nat.beq (r * r % pP) n then r else r * iC % pP) fun r => bif Nat.beq (r * r % pP) n then (bif Nat.beq (r % 2) 1 then (sbN 0 r, true) else (r, true)) else (0, false)
theorem bif_if (a b : Nat) {α : Type} (x y : α) : (bif Nat.beq a b then x else y) = if a = b then x else y := by
  by_cases h : a = b
  · rw [if_pos h, h, show Nat.beq b b = true by simp]; rfl
  · rw [if_neg h]
    have : Nat.beq a b = false := by
      cases hb : Nat.beq a b with
      | false => rfl
      | true => exact absurd (Nat.eq_of_beq_eq_true hb) h
    rw [this]; rfl
theorem outC_eq (n : Nat) : (outN n, okN n) = outC n := by
  unfold outC
  simp only [fo_eq, bif_if]
  have h0 : r0N n = pwC n eS := pwC_eq n eS_lt
  have h1 : r1N n = if pwC n eS * pwC n eS % pP = n then pwC n eS else pwC n eS * iC % pP := by unfold r1N; rw [h0, iC_eq]
  rw [← h1]
  by_cases h : r1N n * r1N n % pP = n
  · rw [if_pos h]
    by_cases h2 : r1N n % 2 = 1
    · rw [if_pos h2, (outN_odd h h2).1, (outN_odd h h2).2]; rfl
    · rw [if_neg h2, (outN_even h h2).1, (outN_even h h2).2]
  · rw [if_neg h, (outN_none h).1, (outN_none h).2]
def ratioC (u v : Nat) : Nat × Bool := bif Nat.beq v 0 then (0, Nat.beq u 0) else fo (u * pwC v eI % pP) outC
theorem ratioC_eq (u v : Nat) : ratioN u v = ratioC u v := by
  unfold ratioC
  simp only [fo_eq, bif_if]
  by_cases h : v = 0
  · rw [if_pos h, ratioN_yes h]
    congr 1
    by_cases h2 : u = 0
    · rw [decide_eq_true h2, h2]; rfl
    · rw [decide_eq_false h2]
      cases hb : Nat.beq u 0 with
      | false => rfl
      | true => exact absurd (Nat.eq_of_beq_eq_true hb) h2
  · rw [if_neg h, ratioN_no h, ← outC_eq]
    have : invN v = pwC v eI := pwC_eq v eI_lt
    rw [this]
def rootC (y : Nat) : Nat × Bool := fo (y * y % pP) fun s => fo (sbN s 1) fun u => fo ((dN * s % pP + 1) % pP) fun v => ratioC u v
theorem root_tw {y : Nat → BitVec 64} {n : Nat} (h : Tw y n) : Tw (rootX y).1 (rootC n).1 ∧ (rootX y).2 = (rootC n).2 := by
  have hs := h.mul h
  have hu := hs.sub tw_one
  have hv := (tw_edge.mul hs).add tw_one
  have hr := hu.ratio hv
  rw [ratioC_eq] at hr
  unfold rootC rootX
  simp only [fo_eq]
  exact hr
def baseC : NP := affN 15112221349535400772501151409588531511454012693041857206046113283949847762202 46316835694926478169428394003475163141307993866256225615783033603165251855960
theorem baseY_tw : Tw baseY 46316835694926478169428394003475163141307993866256225615783033603165251855960 := by
  have h : Tw baseY _ := (Tw.small 4#64).mul (Tw.small 5#64).inv
  have e : invN (5#64).toNat = pwC (5#64).toNat eI := pwC_eq _ eI_lt
  rw [e, show (4#64).toNat * pwC (5#64).toNat eI % pP = 46316835694926478169428394003475163141307993866256225615783033603165251855960 by decide +kernel] at h
  exact h
theorem base_root : (rootC 46316835694926478169428394003475163141307993866256225615783033603165251855960).1 = 15112221349535400772501151409588531511454012693041857206046113283949847762202 := by decide +kernel
theorem PW.base : PW baseP baseC := by
  have h := (root_tw baseY_tw).1
  rw [base_root] at h
  exact .aff h baseY_tw
attribute [local irreducible] baseC baseP zeroP zeroN addN addP
def mulC (n : Nat) (p : NP) : Nat → NP
  | 0 => zeroN
  | k + 1 => bif Nat.beq (n / 2 ^ (255 - k) % 2) 1 then addN (addN (mulC n p k) (mulC n p k)) p else addN (mulC n p k) (mulC n p k)
theorem PW.mul {p : PS} {q : NP} (n : Nat) (h : PW p q) : ∀ k, PW (mulP n p k) (mulC n q k)
  | 0 => .zero
  | k + 1 => by
    have ih := PW.mul n h k
    unfold mulP mulC
    rw [bif_if]
    split
    · exact (ih.add ih).add h
    · exact ih.add ih
def bothC (p : NP) (k : Nat) : NP := bif Nat.beq k 0 then zeroN else bif Nat.beq k 1 then p else bif Nat.beq k 2 then baseC else addN p baseC
theorem PW.both {p : PS} {q : NP} (h : PW p q) (k : Nat) (hk : k < 4) : PW (bothP p k) (bothC q k) := by
  unfold bothC
  rw [bif_if, bif_if, bif_if]
  by_cases h0 : k = 0
  · rw [if_pos h0, h0]; exact .zero
  · by_cases h1 : k = 1
    · rw [if_neg h0, if_pos h1, h1]; exact h
    · by_cases h2 : k = 2
      · rw [if_neg h0, if_neg h1, if_pos h2, h2]; exact .base
      · rw [if_neg h0, if_neg h1, if_neg h2, show k = 3 by omega]
        exact h.add .base
def twoC (a b : Nat) (p : NP) : Nat → NP
  | 0 => zeroN
  | k + 1 => bif Nat.beq (twoK a b k) 0 then addN (twoC a b p k) (twoC a b p k) else addN (addN (twoC a b p k) (twoC a b p k)) (bothC p (twoK a b k))
theorem PW.two {p : PS} {q : NP} (a b : Nat) (h : PW p q) : ∀ k, PW (twoP a b p k) (twoC a b q k)
  | 0 => .zero
  | k + 1 => by
    have ih := PW.two a b h k
    unfold twoP twoC
    rw [bif_if]
    by_cases hk : twoK a b k = 0
    · rw [if_neg (by omega), if_pos hk]
      exact ih.add ih
    · rw [if_pos (by omega), if_neg hk]
      exact (ih.add ih).add (h.both _ (twoK_lt a b k))
def encC (q : NP) : Nat := fo (pwC q.z eI) fun zi => fo (q.x * zi % pP) fun x => q.y * zi % pP + x % 2 * 2 ^ 255
theorem byt_top {y i : Nat} (hy : y < 2 ^ 255) (hi : i < 32) : byt (y + 2 ^ 255) i = if i = 31 then byt y 31 ||| 128#8 else byt y i := by
  by_cases h : i = 31
  · subst h
    rw [if_pos rfl]
    have h1 : (y + 2 ^ 255) / 2 ^ (8 * 31) = y / 2 ^ (8 * 31) + 128 := by
      rw [show (2 : Nat) ^ 255 = 128 * 2 ^ (8 * 31) by decide +kernel, Nat.add_mul_div_right _ _ (Nat.two_pow_pos _)]
    have h2 : y / 2 ^ (8 * 31) < 128 := Nat.div_lt_of_lt_mul hy
    unfold byt
    rw [h1]
    generalize y / 2 ^ (8 * 31) = q at h2 ⊢
    have key : ∀ q : Fin 128, BitVec.ofNat 8 (q.val + 128) = BitVec.ofNat 8 q.val ||| 128#8 := by decide
    exact key ⟨q, h2⟩
  · rw [if_neg h]
    unfold byt
    have hlt : i < 31 := by omega
    have h1 : (y + 2 ^ 255) / 2 ^ (8 * i) = y / 2 ^ (8 * i) + 2 ^ (247 - 8 * i) * 256 := by
      rw [show (2 : Nat) ^ 255 = 2 ^ (247 - 8 * i) * 256 * 2 ^ (8 * i) by
        rw [show (256 : Nat) = 2 ^ 8 from rfl, ← Nat.pow_add, ← Nat.pow_add]; congr 1; omega]
      rw [Nat.add_mul_div_right _ _ (Nat.two_pow_pos _)]
    rw [h1]
    apply BitVec.eq_of_toNat_eq
    rw [BitVec.toNat_ofNat, BitVec.toNat_ofNat, show (2 : Nat) ^ 8 = 256 from rfl, Nat.add_mul_mod_self_right]
theorem encC_ok {p : PS} {q : NP} (h : PW p q) {i : Nat} (hi : i < 32) : encB p i = byt (encC q) i := by
  have hz := h.z.inv
  have hx : Tw (plX p) _ := h.x.mul hz
  have hy : Tw (plY p) _ := h.y.mul hz
  have e : invN q.z = pwC q.z eI := pwC_eq _ eI_lt
  rw [e] at hx hy
  unfold encC
  rw [fo_eq, fo_eq]
  unfold encB
  rw [hx.eq, hy.eq]
  have hlt : q.y * pwC q.z eI % pP < 2 ^ 255 := Nat.lt_trans (Nat.mod_lt _ pP_pos) (by decide +kernel)
  by_cases ho : q.x * pwC q.z eI % pP % 2 = 1
  · rw [if_pos ho, ho, Nat.one_mul, byt_top hlt hi]
    unfold upd
    rfl
  · rw [if_neg ho, show q.x * pwC q.z eI % pP % 2 = 0 by omega, Nat.zero_mul, Nat.add_zero]
def decP (f : Nat → BitVec 8) : PS := affP (if f 31 &&& 128#8 = 0#8 then (rootX (limb51 (natB f 32))).1 else feSub (fun _ => 0) (rootX (limb51 (natB f 32))).1) (limb51 (natB f 32))
def decC (N : Nat) : NP := fo (N % 2 ^ 255 % pP) fun y => fo (rootC y).1 fun x => affN (bif Nat.beq (N / 2 ^ 255 % 2) 1 then sbN 0 x else x) y
def decB (N : Nat) : Bool := fo (N % 2 ^ 255) fun y => Nat.blt y pP && (rootC (y % pP)).2 && !(Nat.beq (N / 2 ^ 255 % 2) 1 && Nat.beq (rootC (y % pP)).1 0)
theorem decB_ok {N : Nat} (h : decB N = true) : N % 2 ^ 255 < pP ∧ (rootC (N % 2 ^ 255 % pP)).2 = true ∧ (N / 2 ^ 255 % 2 = 1 → (rootC (N % 2 ^ 255 % pP)).1 = 0 → False) := by
  unfold decB at h
  rw [fo_eq] at h
  generalize rootC (N % 2 ^ 255 % pP) = r at h ⊢
  generalize N / 2 ^ 255 % 2 = q at h ⊢
  generalize N % 2 ^ 255 = y at h ⊢
  generalize pP = p at h ⊢
  simp only [Bool.and_eq_true, Bool.not_eq_true'] at h
  obtain ⟨⟨h1, h2⟩, h3⟩ := h
  refine ⟨by rwa [Nat.blt_eq] at h1, h2, fun e1 e2 => ?_⟩
  rw [e1, e2] at h3
  cases h3
theorem odd_top (f : Nat → BitVec 8) : (f 31 &&& 128#8 = 0#8) ↔ natB f 32 / 2 ^ 255 % 2 = 0 := by
  have h1 : natB f 32 = natB f 31 + (f 31).toNat * 2 ^ (8 * 31) := rfl
  have h2 := natB_lt f 31
  have h3 : natB f 32 / 2 ^ 255 = (f 31).toNat / 128 := by
    rw [show (2 : Nat) ^ 255 = 2 ^ (8 * 31) * 128 by decide +kernel, ← Nat.div_div_eq_div_mul, h1, Nat.add_mul_div_right _ _ (Nat.two_pow_pos _), Nat.div_eq_of_lt h2, Nat.zero_add]
  rw [h3]
  have key : ∀ b : BitVec 8, (b &&& 128#8 = 0#8) ↔ b.toNat / 128 % 2 = 0 := by decide
  exact key _
theorem PW.dec (f : Nat → BitVec 8) : PW (decP f) (decC (natB f 32)) := by
  have hy := Tw.read f
  have hr := (root_tw hy).1
  unfold decP decC
  rw [fo_eq, fo_eq, bif_if]
  refine .aff ?_ hy
  by_cases h : f 31 &&& 128#8 = 0#8
  · rw [if_pos h, if_neg (by rw [(odd_top f).1 h]; decide)]
    exact hr
  · rw [if_neg h, if_pos (by have := mt (odd_top f).2 h; omega)]
    exact hr.neg
end Go.Sym
namespace Go.Sym
open Go Go.RowKit
section
variable {P : Program} {Q : Exit → Act → World → Prop} {n : Nat} {ops : Array Oper} {rest l : List Oper} {a : Act} {w : World} {E : Nat → Option Value}
variable {d : Nat} {op : Op} {ty : TypeId} {pos : String} {af : Array Edge} {v : Value}
theorem vg (hS : Slots a n E) (h : ∀ a, Slots a n E → wpList P ops Q l a w) : wpList P ops Q l a w := h a hS
theorem vv (hr : ∀ {a}, Slots a n E → Run P a ⟨some d, op, ty, pos, af, none⟩ w v) (h : ∀ a, Slots a n (put E d v) → wpList P ops Q rest a w) (hd : d < n := by decide) :
    ∀ a, Slots a n E → wpList P ops Q (⟨some d, op, ty, pos, af, none⟩ :: rest) a w := fun _ hS => s_val hS hd rfl rfl (hr hS) h
theorem vm {x : Operand} (hx : ev E x = some v) (h : ∀ a, Slots a n (put E d v) → wpList P ops Q rest a w) (hd : d < n := by decide) :
    ∀ a, Slots a n E → wpList P ops Q (⟨some d, .move x, ty, pos, af, none⟩ :: rest) a w := fun _ hS => s_val hS hd rfl rfl (r_move hS hx) h
theorem va {x : Operand} (hx : ev E x = some v) (h : ∀ a, Slots a n (put E d v) → wpList P ops Q rest a w) (hd : d < n := by decide) :
    ∀ a, Slots a n E → wpList P ops Q (⟨some d, .assign x, ty, pos, af, none⟩ :: rest) a w := fun _ hS => s_val hS hd rfl rfl (r_assign hS hx) h
end
section
variable {P : Program} {n : Nat} {ops : List Oper} {rest l : List Oper} {C : World → Prop} {es : List (Nat × Value)} {K : (Nat → Value) → Prop} {i : Nat} {vals : Nat → Value} {o : Oper} {v : Value}
theorem pv (hl : l = o :: rest) (hr : ∀ {a w}, Slots a n (predEnv ops o es vals) → C w → Run P a o w v) (hn : plan P ops n C es K rest (i + 1) (vput vals i v)) (hg : o.guard = none := by rfl) : plan P ops n C es K l i vals :=
  p_step hl (fun _ _ hS hM => y_val hg (hr hS hM)) hn
end
end Go.Sym
namespace Go.Proofs.YtgmieahcpkcabaaGreat
open Go Go.Sym
theorem ext275 : ExtOk Tryz.prog 275 Tryz.f275 addEntry := ⟨Tryz.func275, by kernel_rfl, by kernel_rfl, by kernel_rfl, by kernel_rfl⟩
theorem sz5 : (Tryz.prog.info? 5).map (·.size) = some 1 := by kernel_rfl
theorem sz27 : (Tryz.prog.info? 27).map (·.size) = some 32 := by kernel_rfl
theorem sz45 : (Tryz.prog.info? 45).map (·.size) = some 1 := by kernel_rfl
theorem sz93 : (Tryz.prog.info? 93).map (·.size) = some 5 := by kernel_rfl
theorem sz95 : (Tryz.prog.info? 95).map (·.size) = some 5 := by kernel_rfl
theorem sz286 : (Tryz.prog.info? 286).map (·.size) = some 2 := by kernel_rfl
theorem sz287 : (Tryz.prog.info? 287).map (·.size) = some 10 := by kernel_rfl
theorem zero27 : Zero Tryz.prog 27 (cB 32 (fun _ => 0)) := fun _ => by kernel_rfl
theorem zero93 : Zero Tryz.prog 93 (cU 5 (fun _ => 0)) := fun _ => by kernel_rfl
theorem zero95 : Zero Tryz.prog 95 (cU 5 (fun _ => 0)) := fun _ => by kernel_rfl
theorem zero286 : Zero Tryz.prog 286 (cU 2 (fun _ => 0)) := fun _ => by kernel_rfl
theorem zero287 : Zero Tryz.prog 287 (cU 10 (fun _ => 0)) := fun _ => by kernel_rfl
theorem zero378 : Zero Tryz.prog 378 (cU 4 (fun _ => 0)) := fun _ => by kernel_rfl
theorem build93 (x0 x1 x2 x3 x4 : BitVec 64) (w : World) : (Instr.build 93 ([(0, U x0), (1, U x1), (2, U x2), (3, U x3), (4, U x4)] : List (Nat × Value)).toArray).run Tryz.prog w = .ok (.agg (cU 5 (lst 0 [x0, x1, x2, x3, x4])).toArray) w := by kernel_rfl
theorem build93_2 (x0 x1 : BitVec 64) (w : World) : (Instr.build 93 ([(0, U x0), (1, U x1)] : List (Nat × Value)).toArray).run Tryz.prog w = .ok (.agg (cU 5 (lst 0 [x0, x1])).toArray) w := by kernel_rfl
theorem bld95 (x : Nat → BitVec 64) (w : World) : (Instr.build 95 ([(0, .agg (cU 5 x).toArray)] : List (Nat × Value)).toArray).run Tryz.prog w = .ok (.agg (cU 5 x).toArray) w := by kernel_rfl
set_option maxRecDepth 100000 in
theorem mul64_ok (x y : BitVec 64) (w0 : World) : Pure Tryz.prog 274 #[U x, U y] w0 (.tuple #[U (mulHi x y), U (x * y)]) := by
  refine ⟨by kernel_rfl, ?_⟩
  refine calls_sym Tryz.func274 rfl (by kernel_rfl) ?_
  intro a hS
  have hM : Mem w0 w0 [] := Mem.refl w0
  refine c_seq <| c_region ?_
  refine vg hS <| vv (r_assign · (show ev _ _ = some (U 0#64) from rfl)) <| vv (r_assign · (show ev _ _ = some (U 0#64) from rfl)) ?_; clear hS; intro a hS
  refine s_nil <| k_seq <| c_seq <| c_region ?_
  refine vg hS <| vm rfl <| vv (r_bv · rfl (show ev _ _ = some (U 4294967295#64) from rfl) gU (b_andU _ _ _)) <| va rfl ?_; clear hS; intro a hS
  refine s_nil <| k_seq <| c_seq <| c_region ?_
  refine vg hS <| vm rfl <| vv (r_bv · rfl (show ev _ _ = some (.int .u64 ((32 : Nat) : Int)) from rfl) gU (b_shrU _ _ _ 32)) <| va rfl ?_; clear hS; intro a hS
  refine s_nil <| k_seq <| c_seq <| c_region ?_
  refine vg hS <| vm rfl <| vv (r_bv · rfl (show ev _ _ = some (U 4294967295#64) from rfl) gU (b_andU _ _ _)) <| va rfl ?_; clear hS; intro a hS
  refine s_nil <| k_seq <| c_seq <| c_region ?_
  refine vg hS <| vm rfl <| vv (r_bv · rfl (show ev _ _ = some (.int .u64 ((32 : Nat) : Int)) from rfl) gU (b_shrU _ _ _ 32)) <| va rfl ?_; clear hS; intro a hS
  refine s_nil <| k_seq <| c_seq <| c_region ?_
  refine vg hS <| vm rfl <| vm rfl <| vv (r_bv · rfl rfl gU (b_mulU _ _ _)) <| va rfl ?_; clear hS; intro a hS
  refine s_nil <| k_seq <| c_seq <| c_region ?_
  refine vg hS <| vm rfl <| vm rfl <| vv (r_bv · rfl rfl gU (b_mulU _ _ _)) <| vm rfl <| vv (r_bv · rfl (show ev _ _ = some (.int .u64 ((32 : Nat) : Int)) from rfl) gU (b_shrU _ _ _ 32)) <| vv (r_bv · rfl rfl gU (b_addU _ _ _)) <| va rfl ?_; clear hS; intro a hS
  refine s_nil <| k_seq <| c_seq <| c_region ?_
  refine vg hS <| vm rfl <| vv (r_bv · rfl (show ev _ _ = some (U 4294967295#64) from rfl) gU (b_andU _ _ _)) <| va rfl ?_; clear hS; intro a hS
  refine s_nil <| k_seq <| c_seq <| c_region ?_
  refine vg hS <| vm rfl <| vv (r_bv · rfl (show ev _ _ = some (.int .u64 ((32 : Nat) : Int)) from rfl) gU (b_shrU _ _ _ 32)) <| va rfl ?_; clear hS; intro a hS
  refine s_nil <| k_seq <| c_seq <| c_region ?_
  refine vg hS <| vm rfl <| vm rfl <| vm rfl <| vv (r_bv · rfl rfl gU (b_mulU _ _ _)) <| vv (r_bv · rfl rfl gU (b_addU _ _ _)) <| va rfl ?_; clear hS; intro a hS
  refine s_nil <| k_seq <| c_seq <| c_region ?_
  refine vg hS <| vm rfl <| vm rfl <| vv (r_bv · rfl rfl gU (b_mulU _ _ _)) <| vm rfl <| vv (r_bv · rfl rfl gU (b_addU _ _ _)) <| vm rfl <| vv (r_bv · rfl (show ev _ _ = some (.int .u64 ((32 : Nat) : Int)) from rfl) gU (b_shrU _ _ _ 32)) <| vv (r_bv · rfl rfl gU (b_addU _ _ _)) <| va rfl ?_; clear hS; intro a hS
  refine s_nil <| k_seq <| c_seq <| c_region ?_
  refine vg hS <| vm rfl <| vm rfl <| vv (r_bv · rfl rfl gU (b_mulU _ _ _)) <| va rfl ?_; clear hS; intro a hS
  refine s_nil <| k_seq <| c_ret ?_
  exact k_res2 hS rfl (RV.tmp rfl) (RV.tmp rfl) ⟨rfl, hM.done trivial⟩
set_option maxRecDepth 100000 in
theorem carry_ok (x : Nat → BitVec 64) (w0 : World) : Pure Tryz.prog 220 #[.agg (cU 5 x).toArray] w0 (.agg (cU 5 (feCarry x)).toArray) := by
  refine ⟨by kernel_rfl, ?_⟩
  refine calls_sym Tryz.func220 rfl (by kernel_rfl) ?_
  intro a hS
  have hM : Mem w0 w0 [] := Mem.refl w0
  refine c_seq <| c_region ?_
  refine s_box hS hM (by decide) rfl rfl ?_; clear hS hM; intro a b1 w hb1 hS hM
  refine s_alloc hS hM (by decide) zero95 ?_; clear hS hM; intro a b2 w hb2 hS hM
  refine s_nil <| k_seq <| c_seq <| c_region ?_
  refine s_alloc hS hM (by decide) zero93 ?_; clear hS hM; intro a b3 w hb3 hS hM
  refine s_nil <| k_seq <| c_seq <| c_seq <| c_region ?_
  refine vg hS <| vv (r_field0 · rfl Tryz.underlying95 rfl (s := 4) sz93 (k := 0) rfl) <| vv (r_loadAll · hM rfl (j := 2) rfl Tryz.underlying93 rfl sz93 cells_len) <| vv (r_move · (show ev _ _ = some (N 0) from rfl)) ?_; clear hS; intro a hS
  refine s_nil <| k_seq <| c_block ?_
  refine c_loop (σ := Nat) (fun k a w => (k ≤ 5) ∧ Slots a 56 (env [(1, ptr b1 0), (2, ptr b2 0), (3, ptr b3 0), (10, .agg (cU 5 x).toArray), (11, N k)]) ∧ Mem w0 w ([⟨b3, 93, cU 5 (fil 0 (fun i => x i >>> 51) k)⟩, ⟨b2, 95, cU 5 (fun _ => 0)⟩, ⟨b1, 95, cU 5 x⟩])) (fun k => 5 - k) (0) ⟨by omega, hS.to _ ⟨rfl, rfl, rfl, rfl, rfl, trivial⟩, hM⟩ ?_
  clear hS hM; rintro k a w ⟨hk, hS, hM⟩
  refine c_seq <| c_region ?_
  refine vg hS <| vv (r_bv · rfl (show ev _ _ = some (N 5) from rfl) gN (b_lssN _ _ _)) ?_; clear hS; intro a hS
  refine s_nil <| k_seq <| c_seq ?_
  refine c_cond hS rfl (fun hc => ?_) (fun hc => ?_)
  · have hk1 := of_decide_eq_true hc
    refine c_skip <| k_seq <| c_seq <| c_block <| c_seq <| c_region ?_
    refine vg hS <| vm rfl <| vv (r_index · rfl rfl Tryz.underlying93 sz45 Tryz.underlying45 rfl (by omega) (cells_get' (by omega))) <| va rfl <| va rfl ?_; clear hS; intro a hS
    refine s_nil <| k_seq <| c_region ?_
    refine vg hS <| vm rfl <| vm rfl <| vv (r_bv · rfl (show ev _ _ = some (.int .u64 ((51 : Nat) : Int)) from rfl) gU (b_shrU _ _ _ 51)) <| vv (r_index0 · rfl rfl Tryz.underlying93 sz45 (by omega)) ?_; clear hS; intro a hS
    refine s_storeU hS hM rfl rfl (j := 0) rfl sz45 (by omega) ?_; clear hS hM; intro a w hS hM
    refine s_nil <| k_in <| k_seq <| c_region ?_
    refine vg hS <| vv (r_bv · rfl (show ev _ _ = some (N 1) from rfl) gN (b_addN _ _ _ (by omega))) <| vm rfl ?_; clear hS; intro a hS
    refine s_nil <| k_then ?_
    refine ⟨k + 1, by omega, by omega, hS.to _ ⟨rfl, rfl, rfl, rfl, rfl, trivial⟩, hM⟩
  · obtain rfl : k = 5 := (by have := of_decide_eq_false hc; omega); rw [cU_fil] at hM
    refine c_exit <| k_thenx <| k_thenx <| k_inx <| k_seq <| c_seq <| c_region ?_
    refine vg hS <| vv (fun hS => r_build hS rfl (cs := cU 5 (fun _ => 0)) (fun _ => by kernel_rfl)) ?_; clear hS; intro a hS
    refine s_alloc hS hM (by decide) zero95 ?_; clear hS hM; intro a b6 w hb6 hS hM
    refine s_storeAll hS hM rfl rfl (j := 0) rfl sz95 cells_len cells_len cU_one ?_; clear hS hM; intro a w hS hM
    refine s_nil <| k_seq <| c_seq <| c_seq <| c_region ?_
    refine vg hS <| vv (r_field0 · rfl Tryz.underlying95 rfl (s := 4) sz93 (k := 0) rfl) <| vv (r_loadAll · hM rfl (j := 3) rfl Tryz.underlying93 rfl sz93 cells_len) <| vv (r_move · (show ev _ _ = some (N 0) from rfl)) ?_; clear hS; intro a hS
    refine s_nil <| k_seq <| c_block ?_
    refine c_loop (σ := Nat) (fun k a w => (k ≤ 5) ∧ Slots a 56 (env [(2, ptr b2 0), (3, ptr b3 0), (6, ptr b6 0), (22, .agg (cU 5 x).toArray), (23, N k)]) ∧ Mem w0 w ([⟨b6, 95, cU 5 (carTo x k)⟩, ⟨b3, 93, cU 5 (fun i => x i >>> 51)⟩, ⟨b2, 95, cU 5 (fun _ => 0)⟩, ⟨b1, 95, cU 5 x⟩])) (fun k => 5 - k) (0) ⟨by omega, hS.to _ ⟨rfl, rfl, rfl, rfl, rfl, trivial⟩, (by rw [carTo_zero]; exact hM)⟩ ?_
    clear hS hM; rintro k a w ⟨hk, hS, hM⟩
    refine c_seq <| c_region ?_
    refine vg hS <| vv (r_bv · rfl (show ev _ _ = some (N 5) from rfl) gN (b_lssN _ _ _)) ?_; clear hS; intro a hS
    refine s_nil <| k_seq <| c_seq ?_
    refine c_cond hS rfl (fun hc => ?_) (fun hc => ?_)
    · have hk1 := of_decide_eq_true hc
      refine c_skip <| k_seq <| c_seq <| c_block <| c_seq <| c_region ?_
      refine vg hS <| vm rfl <| vv (r_index · rfl rfl Tryz.underlying93 sz45 Tryz.underlying45 rfl (by omega) (cells_get' (by omega))) <| va rfl <| va rfl ?_; clear hS; intro a hS
      refine s_nil <| k_seq <| c_seq <| c_region ?_
      refine vg hS <| vm rfl <| vm rfl <| vv (r_bv · rfl (show ev _ _ = some (U 2251799813685247#64) from rfl) gU (b_andU _ _ _)) <| vv (r_field0 · rfl Tryz.underlying95 rfl (s := 4) sz93 (k := 0) rfl) <| vv (r_index0 · rfl rfl Tryz.underlying93 sz45 (by omega)) ?_; clear hS; intro a hS
      refine s_storeU hS hM rfl rfl (j := 0) rfl sz45 (by omega) ?_; clear hS hM; intro a w hS hM
      refine s_nil <| k_seq <| c_seq <| c_region ?_
      refine vg hS <| vm rfl <| vv (r_bv · rfl (show ev _ _ = some (N 0) from rfl) gN (b_gtrN _ _ _)) ?_; clear hS; intro a hS
      refine s_nil <| k_seq ?_
      refine c_cond hS rfl (fun hc => ?_) (fun hc => ?_)
      · have hk2 := of_decide_eq_true hc
        refine c_plan 11 (fun w => Mem w0 w _) [(7, _), (6, _), (3, _), (2, _), (8, _), (22, _), (23, _), (24, _), (25, _), (26, _), (27, _), (28, _), (29, _), (30, _), (31, _), (32, _), (33, _)] (by kernel_rfl) (by kernel_rfl) hS ⟨rfl, rfl, rfl, rfl, rfl, rfl, rfl, rfl, rfl, rfl, rfl, rfl, rfl, rfl, rfl, rfl, rfl, trivial⟩ (hM.drawn _) ?_; clear hS hM
        refine pv rfl (fun hS _ => r_move hS rfl) <| pv rfl (fun hS _ => r_field0 hS rfl Tryz.underlying95 rfl (s := 4) sz93 (k := 0) rfl) <| pv rfl (fun hS _ => r_index0 hS rfl rfl Tryz.underlying93 sz45 (by omega)) <| pv rfl (fun hS hM => r_load hS hM rfl (j := 0) rfl Tryz.underlying45 rfl (cells_get (by omega))) <| pv rfl (fun hS _ => r_move hS rfl) <| pv rfl (fun hS _ => r_bv hS rfl (show ev _ _ = some (N 1) from rfl) gN (b_subN _ _ _ (by omega) (by omega))) <| pv rfl (fun hS _ => r_index0 hS rfl rfl Tryz.underlying93 sz45 (by omega)) <| pv rfl (fun hS hM => r_load hS hM rfl (j := 1) rfl Tryz.underlying45 rfl (cells_get (by omega))) <| pv rfl (fun hS _ => r_bv hS rfl rfl gU (b_addU _ _ _)) <| pv rfl (fun hS _ => r_field0 hS rfl Tryz.underlying95 rfl (s := 4) sz93 (k := 0) rfl) ?_
        refine pv rfl (fun hS _ => r_index0 hS rfl rfl Tryz.underlying93 sz45 (by omega)) ?_
        refine p_nil rfl ?_; intro a w hS hM
        refine s_storeU hS hM rfl rfl (j := 0) rfl sz45 (by omega) ?_; clear hS hM; intro a w hS hM
        refine s_nil <| k_in <| k_seq <| c_region ?_
        refine vg hS <| vv (r_bv · rfl (show ev _ _ = some (N 1) from rfl) gN (b_addN _ _ _ (by omega))) <| vm rfl ?_; clear hS; intro a hS
        refine s_nil <| k_then ?_
        refine ⟨k + 1, by omega, by omega, hS.to _ ⟨rfl, rfl, rfl, rfl, rfl, trivial⟩, (by first | exact hM.congr (by rw [← carTo_next x k (by omega)]; rfl) | exact hM.congr (by rw [← carTo_first x k (by omega)]; rfl))⟩
      · have hk2 := of_decide_eq_false hc
        refine c_skip <| k_in <| k_seq <| c_region ?_
        refine vg hS <| vv (r_bv · rfl (show ev _ _ = some (N 1) from rfl) gN (b_addN _ _ _ (by omega))) <| vm rfl ?_; clear hS; intro a hS
        refine s_nil <| k_then ?_
        refine ⟨k + 1, by omega, by omega, hS.to _ ⟨rfl, rfl, rfl, rfl, rfl, trivial⟩, (by first | exact hM.congr (by rw [← carTo_next x k (by omega)]; rfl) | exact hM.congr (by rw [← carTo_first x k (by omega)]; rfl))⟩
    · obtain rfl : k = 5 := by have := of_decide_eq_false hc; omega
      refine c_exit <| k_thenx <| k_thenx <| k_inx <| k_seq <| c_seq <| c_region ?_
      refine vg hS <| vv (r_field0 · rfl Tryz.underlying95 rfl (s := 4) sz93 (k := 0) rfl) <| vv (r_index0 · rfl (show ev _ _ = some (.int .i64 ((0 : Nat) : Int)) from rfl) Tryz.underlying93 sz45 (by decide)) <| vv (r_load · hM rfl (j := 0) rfl Tryz.underlying45 rfl (cells_get (by omega))) <| vv (r_index0 · rfl (show ev _ _ = some (.int .i64 ((4 : Nat) : Int)) from rfl) Tryz.underlying93 sz45 (by decide)) <| vv (r_load · hM rfl (j := 1) rfl Tryz.underlying45 rfl (cells_get (by omega))) <| vv (r_bv · rfl (show ev _ _ = some (U 19#64) from rfl) gU (b_mulU _ _ _)) <| vv (r_bv · rfl rfl gU (b_addU _ _ _)) <| vv (r_field0 · rfl Tryz.underlying95 rfl (s := 4) sz93 (k := 0) rfl) <| vv (r_index0 · rfl (show ev _ _ = some (.int .i64 ((0 : Nat) : Int)) from rfl) Tryz.underlying93 sz45 (by decide)) ?_; clear hS; intro a hS
      refine s_storeU hS hM rfl rfl (j := 0) rfl sz45 (by omega) ?_; clear hS hM; intro a w hS hM
      rw [carTo_end] at hM
      refine s_nil <| k_seq <| c_seq <| c_region ?_
      refine vg hS <| vv (r_loadAll · hM rfl (j := 0) rfl Tryz.underlying95 rfl sz95 cells_len) ?_; clear hS; intro a hS
      refine s_storeAll hS hM rfl rfl (j := 2) rfl sz95 cells_len cells_len cU_one ?_; clear hS hM; intro a w hS hM
      refine s_nil <| k_seq <| c_ret ?_
      exact k_res1 hS rfl (RV.row rfl (hM.have_ _ (mem_of_get (j := 2) rfl)) Tryz.underlying95 rfl (by rw [sz95]; exact congrArg some cells_len.symm)) ⟨rfl, hM.done ⟨hb6, hb3, hb2, hb1, trivial⟩⟩
set_option maxRecDepth 100000 in
theorem least_ok (x : Nat → BitVec 64) (hx : Ok x) (w0 : World) : Pure Tryz.prog 151 #[.agg (cU 5 x).toArray] w0 (.agg (cU 5 (limb51 (val x % pP))).toArray) := by
  have ⟨hc1, hc2, _⟩ := carried_small hx
  refine ⟨by kernel_rfl, ?_⟩
  refine calls_sym Tryz.func151 rfl (by kernel_rfl) ?_
  intro a hS
  have hM : Mem w0 w0 [] := Mem.refl w0
  refine c_seq <| c_region ?_
  refine s_box hS hM (by decide) rfl rfl ?_; clear hS hM; intro a b1 w hb1 hS hM
  refine s_alloc hS hM (by decide) zero95 ?_; clear hS hM; intro a b2 w hb2 hS hM
  refine s_nil <| k_seq <| c_seq <| c_region ?_
  refine vg hS <| vv (r_loadAll · hM rfl (j := 1) rfl Tryz.underlying95 rfl sz95 cells_len) ?_; clear hS; intro a hS
  refine s_pure hS hM (by decide) rfl (carry_ok _ _) ?_; clear hS hM; intro a w hS hM
  refine s_storeAll hS hM rfl rfl (j := 1) rfl sz95 cells_len cells_len cU_one ?_; clear hS hM; intro a w hS hM
  refine s_nil <| k_seq <| c_seq <| c_region ?_
  refine vg hS <| vv (r_assign · (show ev _ _ = some (U 19#64) from rfl)) ?_; clear hS; intro a hS
  refine s_nil <| k_seq <| c_seq <| c_seq <| c_region ?_
  refine vg hS <| vv (r_field0 · rfl Tryz.underlying95 rfl (s := 4) sz93 (k := 0) rfl) <| vv (r_loadAll · hM rfl (j := 1) rfl Tryz.underlying93 rfl sz93 cells_len) <| vv (r_move · (show ev _ _ = some (N 0) from rfl)) ?_; clear hS; intro a hS
  refine s_nil <| k_seq <| c_block ?_
  refine c_loop (σ := Nat) (fun k a w => (k ≤ 5) ∧ Slots a 39 (env [(1, ptr b1 0), (2, ptr b2 0), (3, U (BitVec.ofNat 64 (chn 19 (feCarry x) k))), (10, .agg (cU 5 (feCarry x)).toArray), (11, N k)]) ∧ Mem w0 w ([⟨b2, 95, cU 5 (fun _ => 0)⟩, ⟨b1, 95, cU 5 (feCarry x)⟩])) (fun k => 5 - k) (0) ⟨by omega, hS.to _ ⟨rfl, rfl, congrArg (fun q => some (U q)) (by rw [chn_zero]), rfl, rfl, trivial⟩, hM⟩ ?_
  clear hS hM; rintro k a w ⟨hk, hS, hM⟩
  refine c_seq <| c_region ?_
  refine vg hS <| vv (r_bv · rfl (show ev _ _ = some (N 5) from rfl) gN (b_lssN _ _ _)) ?_; clear hS; intro a hS
  refine s_nil <| k_seq <| c_seq ?_
  refine c_cond hS rfl (fun hc => ?_) (fun hc => ?_)
  · have hk1 := of_decide_eq_true hc
    refine c_skip <| k_seq <| c_seq <| c_block <| c_seq <| c_region ?_
    refine vg hS <| vv (r_index · rfl rfl Tryz.underlying93 sz45 Tryz.underlying45 rfl (by omega) (cells_get' (by omega))) <| va rfl ?_; clear hS; intro a hS
    refine s_nil <| k_seq <| c_region ?_
    refine vg hS <| vm rfl <| vm rfl <| vv (r_bv · rfl rfl gU (b_addU _ _ _)) <| vv (r_bv · rfl (show ev _ _ = some (.int .u64 ((51 : Nat) : Int)) from rfl) gU (b_shrU _ _ _ 51)) <| va rfl ?_; clear hS; intro a hS
    refine s_nil <| k_in <| k_seq <| c_region ?_
    refine vg hS <| vv (r_bv · rfl (show ev _ _ = some (N 1) from rfl) gN (b_addN _ _ _ (by omega))) <| vm rfl ?_; clear hS; intro a hS
    refine s_nil <| k_then ?_
    refine ⟨k + 1, by omega, by omega, hS.to _ ⟨rfl, rfl, congrArg (fun q => some (U q)) (chn_step (by decide) hc1 k hk1 _ _ (by rw [chn_bv (by decide) hc1 k (by omega)])), rfl, rfl, trivial⟩, hM⟩
  · obtain rfl : k = 5 := by have := of_decide_eq_false hc; omega
    refine c_exit <| k_thenx <| k_thenx <| k_inx <| k_seq <| c_seq <| c_region ?_
    refine vg hS <| vm rfl <| vv (r_bv · rfl (show ev _ _ = some (U 19#64) from rfl) gU (b_mulU _ _ _)) <| va rfl ?_; clear hS; intro a hS
    rw [mul19 hc2] at hS
    refine s_nil <| k_seq <| c_seq <| c_seq <| c_region ?_
    refine vg hS <| vv (r_move · (show ev _ _ = some (N 0) from rfl)) ?_; clear hS; intro a hS
    refine s_nil <| k_seq <| c_block ?_
    refine c_loop (σ := Nat) (fun k a w => (k ≤ 5) ∧ Slots a 39 (env [(1, ptr b1 0), (2, ptr b2 0), (3, U (BitVec.ofNat 64 (chn (19 * chn 19 (feCarry x) 5) (feCarry x) k))), (21, N k)]) ∧ Mem w0 w ([⟨b2, 95, cU 5 (fun _ => 0)⟩, ⟨b1, 95, cU 5 (leTo (feCarry x) (19 * chn 19 (feCarry x) 5) k)⟩])) (fun k => 5 - k) (0) ⟨by omega, hS.to _ ⟨rfl, rfl, rfl, rfl, trivial⟩, (by rw [leTo_zero]; exact hM)⟩ ?_
    clear hS hM; rintro k a w ⟨hk, hS, hM⟩
    refine c_seq <| c_region ?_
    refine vg hS <| vv (r_bv · rfl (show ev _ _ = some (N 5) from rfl) gN (b_lssN _ _ _)) ?_; clear hS; intro a hS
    refine s_nil <| k_seq <| c_seq ?_
    refine c_cond hS rfl (fun hc => ?_) (fun hc => ?_)
    · have hk1 := of_decide_eq_true hc
      refine c_skip <| k_seq <| c_seq <| c_block <| c_seq <| c_region ?_
      refine vg hS <| vm rfl <| va rfl ?_; clear hS; intro a hS
      refine s_nil <| k_seq <| c_seq <| c_region ?_
      refine vg hS <| vm rfl <| vm rfl <| vv (r_field0 · rfl Tryz.underlying95 rfl (s := 4) sz93 (k := 0) rfl) <| vv (r_index0 · rfl rfl Tryz.underlying93 sz45 (by omega)) <| vv (r_load · hM rfl (j := 1) rfl Tryz.underlying45 rfl (cells_get (by omega))) <| vv (r_bv · rfl rfl gU (b_addU _ _ _)) <| va rfl ?_; clear hS; intro a hS
      refine s_nil <| k_seq <| c_seq <| c_region ?_
      refine vg hS <| vm rfl <| vm rfl <| vv (r_bv · rfl (show ev _ _ = some (U 2251799813685247#64) from rfl) gU (b_andU _ _ _)) <| vv (r_field0 · rfl Tryz.underlying95 rfl (s := 4) sz93 (k := 0) rfl) <| vv (r_index0 · rfl rfl Tryz.underlying93 sz45 (by omega)) ?_; clear hS; intro a hS
      refine s_storeU hS hM rfl rfl (j := 1) rfl sz45 (by omega) ?_; clear hS hM; intro a w hS hM
      refine s_nil <| k_seq <| c_region ?_
      refine vg hS <| vm rfl <| vv (r_bv · rfl (show ev _ _ = some (.int .u64 ((51 : Nat) : Int)) from rfl) gU (b_shrU _ _ _ 51)) <| va rfl ?_; clear hS; intro a hS
      refine s_nil <| k_in <| k_seq <| c_region ?_
      refine vg hS <| vv (r_bv · rfl (show ev _ _ = some (N 1) from rfl) gN (b_addN _ _ _ (by omega))) <| vm rfl ?_; clear hS; intro a hS
      refine s_nil <| k_then ?_
      refine ⟨k + 1, by omega, by omega, hS.to _ ⟨rfl, rfl, congrArg (fun q => some (U q)) (by rw [leTo_self]; exact chn_step (q_le hc2) hc1 k hk1 _ _ (by rw [chn_bv (q_le hc2) hc1 k (by omega), Nat.add_comm])), rfl, trivial⟩, (hM.congr (by rw [← leTo_step (q_le hc2) hc1 k hk1, leTo_self]; rfl))⟩
    · obtain rfl : k = 5 := (by have := of_decide_eq_false hc; omega); rw [least_cells hx] at hM
      refine c_exit <| k_thenx <| k_thenx <| k_inx <| k_seq <| c_seq <| c_region ?_
      refine vg hS <| vv (r_loadAll · hM rfl (j := 1) rfl Tryz.underlying95 rfl sz95 cells_len) ?_; clear hS; intro a hS
      refine s_storeAll hS hM rfl rfl (j := 0) rfl sz95 cells_len cells_len cU_one ?_; clear hS hM; intro a w hS hM
      refine s_nil <| k_seq <| c_ret ?_
      exact k_res1 hS rfl (RV.row rfl (hM.have_ _ (mem_of_get (j := 0) rfl)) Tryz.underlying95 rfl (by rw [sz95]; exact congrArg some cells_len.symm)) ⟨rfl, hM.done ⟨hb2, hb1, trivial⟩⟩
set_option maxRecDepth 100000 in
theorem bytes_ok (x : Nat → BitVec 64) (hx : Ok x) (w0 : World) : Pure Tryz.prog 85 #[.agg (cU 5 x).toArray] w0 (.agg (cB 32 (byt (val x % pP))).toArray) := by
  refine ⟨by kernel_rfl, ?_⟩
  refine calls_sym Tryz.func85 rfl (by kernel_rfl) ?_
  intro a hS
  have hM : Mem w0 w0 [] := Mem.refl w0
  refine c_seq <| c_region ?_
  refine s_box hS hM (by decide) rfl rfl ?_; clear hS hM; intro a b1 w hb1 hS hM
  refine s_alloc hS hM (by decide) zero27 ?_; clear hS hM; intro a b2 w hb2 hS hM
  refine s_nil <| k_seq <| c_seq <| c_region ?_
  refine vg hS <| vv (r_loadAll · hM rfl (j := 1) rfl Tryz.underlying95 rfl sz95 cells_len) ?_; clear hS; intro a hS
  refine s_pure hS hM (by decide) rfl (least_ok _ (by assumption) _) ?_; clear hS hM; intro a w hS hM
  refine s_storeAll hS hM rfl rfl (j := 1) rfl sz95 cells_len cells_len cU_one ?_; clear hS hM; intro a w hS hM
  refine s_nil <| k_seq <| c_seq <| c_region ?_
  refine s_alloc hS hM (by decide) zero27 ?_; clear hS hM; intro a b3 w hb3 hS hM
  refine s_nil <| k_seq <| c_seq <| c_seq <| c_region ?_
  refine vg hS <| vv (r_move · (show ev _ _ = some (N 0) from rfl)) ?_; clear hS; intro a hS
  refine s_nil <| k_seq <| c_block ?_
  refine c_loop (σ := Nat) (fun k a w => (k ≤ 255) ∧ Slots a 31 (env [(1, ptr b1 0), (2, ptr b2 0), (3, ptr b3 0), (7, N k)]) ∧ Mem w0 w ([⟨b3, 27, cB 32 (byt ((val x % pP) % 2 ^ k))⟩, ⟨b2, 27, cB 32 (fun _ => 0)⟩, ⟨b1, 95, cU 5 (limb51 (val x % pP))⟩])) (fun k => 255 - k) (0) ⟨by omega, hS.to _ ⟨rfl, rfl, rfl, rfl, trivial⟩, (by rw [Nat.pow_zero, Nat.mod_one, byt_zero]; exact hM)⟩ ?_
  clear hS hM; rintro k a w ⟨hk, hS, hM⟩
  refine c_seq <| c_region ?_
  refine vg hS <| vv (r_bv · rfl (show ev _ _ = some (N 255) from rfl) gN (b_lssN _ _ _)) ?_; clear hS; intro a hS
  refine s_nil <| k_seq <| c_seq ?_
  refine c_cond hS rfl (fun hc => ?_) (fun hc => ?_)
  · have hk1 := of_decide_eq_true hc
    refine c_skip <| k_seq <| c_seq <| c_block <| c_seq <| c_region ?_
    refine vg hS <| vm rfl <| va rfl ?_; clear hS; intro a hS
    refine s_nil <| k_seq ?_
    refine c_plan 19 (fun w => Mem w0 w _) [(4, _), (3, _), (1, _), (2, _), (7, _), (8, _), (9, _)] (by kernel_rfl) (by kernel_rfl) hS ⟨rfl, rfl, rfl, rfl, rfl, rfl, rfl, trivial⟩ (hM.drawn _) ?_; clear hS hM
    refine pv rfl (fun hS _ => r_move hS rfl) <| pv rfl (fun hS _ => r_bv hS rfl (show ev _ _ = some (N 8) from rfl) gN (b_quoN _ _ _ (by omega) (by omega))) <| pv rfl (fun hS _ => r_index0 hS rfl rfl Tryz.underlying27 sz5 (by omega)) <| pv rfl (fun hS hM => r_load hS hM rfl (j := 0) rfl Tryz.underlying5 rfl (cells_get (by omega))) <| pv rfl (fun hS _ => r_move hS rfl) <| pv rfl (fun hS _ => r_bv hS rfl (show ev _ _ = some (N 51) from rfl) gN (b_quoN _ _ _ (by omega) (by omega))) <| pv rfl (fun hS _ => r_field0 hS rfl Tryz.underlying95 rfl (s := 4) sz93 (k := 0) rfl) <| pv rfl (fun hS _ => r_index0 hS rfl rfl Tryz.underlying93 sz45 (by omega)) <| pv rfl (fun hS hM => r_load hS hM rfl (j := 2) rfl Tryz.underlying45 rfl (cells_get (by omega))) <| pv rfl (fun hS _ => r_move hS rfl) ?_
    refine pv rfl (fun hS _ => r_bv hS rfl (show ev _ _ = some (N 51) from rfl) gN (b_remN _ _ _ (by omega))) <| pv rfl (fun hS _ => r_bv hS rfl rfl gU (b_shrU _ _ _ _)) <| pv rfl (fun hS _ => r_bv hS rfl (show ev _ _ = some (U 1#64) from rfl) gU (b_andU _ _ _)) <| pv rfl (fun hS _ => r_conv hS rfl (by kernel_rfl) Tryz.underlying5 (cv_UB _)) <| pv rfl (fun hS _ => r_move hS rfl) <| pv rfl (fun hS _ => r_bv hS rfl (show ev _ _ = some (N 8) from rfl) gN (b_remN _ _ _ (by omega))) <| pv rfl (fun hS _ => r_bv hS rfl rfl gB (b_shlB _ _ _ _)) <| pv rfl (fun hS _ => r_bv hS rfl rfl gB (b_orB _ _ _)) <| pv rfl (fun hS _ => r_index0 hS rfl rfl Tryz.underlying27 sz5 (by omega)) ?_
    refine p_nil rfl ?_; intro a w hS hM
    refine s_storeB hS hM rfl rfl (j := 0) rfl sz5 (by omega) ?_; clear hS hM; intro a w hS hM
    refine s_nil <| k_in <| k_seq <| c_region ?_
    refine vg hS <| vv (r_bv · rfl (show ev _ _ = some (N 1) from rfl) gN (b_addN _ _ _ (by omega))) <| vm rfl ?_; clear hS; intro a hS
    refine s_nil <| k_then ?_
    refine ⟨k + 1, by omega, by omega, hS.to _ ⟨rfl, rfl, rfl, rfl, trivial⟩, (hM.congr (by rw [← bytes_step]; rfl))⟩
  · obtain rfl : k = 255 := (by have := of_decide_eq_false hc; omega); rw [Nat.mod_eq_of_lt (val_lt255 x)] at hM
    refine c_exit <| k_thenx <| k_thenx <| k_inx <| k_seq <| c_seq <| c_region ?_
    refine vg hS <| vv (r_loadAll · hM rfl (j := 0) rfl Tryz.underlying27 rfl sz27 cells_len) ?_; clear hS; intro a hS
    refine s_storeAll hS hM rfl rfl (j := 1) rfl sz27 cells_len cells_len cB_one ?_; clear hS hM; intro a w hS hM
    refine s_nil <| k_seq <| c_ret ?_
    exact k_res1 hS rfl (RV.row rfl (hM.have_ _ (mem_of_get (j := 1) rfl)) Tryz.underlying27 rfl (by rw [sz27]; exact congrArg some cells_len.symm)) ⟨rfl, hM.done ⟨hb3, hb2, hb1, trivial⟩⟩
set_option maxRecDepth 100000 in
theorem from_ok (f : Nat → BitVec 8) (w0 : World) : Pure Tryz.prog 276 #[.agg (cB 32 f).toArray] w0 (.agg (cU 5 (limb51 (natB f 32))).toArray) := by
  refine ⟨by kernel_rfl, ?_⟩
  refine calls_sym Tryz.func276 rfl (by kernel_rfl) ?_
  intro a hS
  have hM : Mem w0 w0 [] := Mem.refl w0
  refine c_seq <| c_region ?_
  refine s_box hS hM (by decide) rfl rfl ?_; clear hS hM; intro a b1 w hb1 hS hM
  refine s_alloc hS hM (by decide) zero95 ?_; clear hS hM; intro a b2 w hb2 hS hM
  refine s_nil <| k_seq <| c_seq <| c_region ?_
  refine s_alloc hS hM (by decide) zero378 ?_; clear hS hM; intro a b3 w hb3 hS hM
  refine s_nil <| k_seq <| c_seq <| c_seq <| c_region ?_
  refine vg hS <| vv (r_loadAll · hM rfl (j := 2) rfl Tryz.underlying27 rfl sz27 cells_len) <| vv (r_move · (show ev _ _ = some (N 0) from rfl)) ?_; clear hS; intro a hS
  refine s_nil <| k_seq <| c_block ?_
  refine c_loop (σ := Nat) (fun k a w => (k ≤ 32) ∧ Slots a 57 (env [(2, ptr b2 0), (3, ptr b3 0), (6, .agg (cB 32 f).toArray), (7, N k)]) ∧ Mem w0 w ([⟨b3, 378, cU 4 (limb (natB f k))⟩, ⟨b2, 95, cU 5 (fun _ => 0)⟩, ⟨b1, 27, cB 32 f⟩])) (fun k => 32 - k) (0) ⟨by omega, hS.to _ ⟨rfl, rfl, rfl, rfl, trivial⟩, (by rw [show limb (natB f 0) = fun _ => 0 from limb_zero]; exact hM)⟩ ?_
  clear hS hM; rintro k a w ⟨hk, hS, hM⟩
  refine c_seq <| c_region ?_
  refine vg hS <| vv (r_bv · rfl (show ev _ _ = some (N 32) from rfl) gN (b_lssN _ _ _)) ?_; clear hS; intro a hS
  refine s_nil <| k_seq <| c_seq ?_
  refine c_cond hS rfl (fun hc => ?_) (fun hc => ?_)
  · have hk1 := of_decide_eq_true hc
    refine c_skip <| k_seq <| c_seq <| c_block <| c_seq <| c_region ?_
    refine vg hS <| vm rfl <| vv (r_index · rfl rfl Tryz.underlying27 sz5 Tryz.underlying5 rfl (by omega) (cells_get' (by omega))) <| va rfl <| va rfl ?_; clear hS; intro a hS
    refine s_nil <| k_seq ?_
    refine c_plan 12 (fun w => Mem w0 w _) [(4, _), (3, _), (5, _), (2, _), (6, _), (7, _), (8, _), (9, _), (10, _)] (by kernel_rfl) (by kernel_rfl) hS ⟨rfl, rfl, rfl, rfl, rfl, rfl, rfl, rfl, rfl, trivial⟩ (hM.drawn _) ?_; clear hS hM
    refine pv rfl (fun hS _ => r_move hS rfl) <| pv rfl (fun hS _ => r_bv hS rfl (show ev _ _ = some (N 8) from rfl) gN (b_quoN _ _ _ (by omega) (by omega))) <| pv rfl (fun hS _ => r_index0 hS rfl rfl Tryz.underlying378 sz45 (by omega)) <| pv rfl (fun hS hM => r_load hS hM rfl (j := 0) rfl Tryz.underlying45 rfl (cells_get (by omega))) <| pv rfl (fun hS _ => r_move hS rfl) <| pv rfl (fun hS _ => r_conv hS rfl (by kernel_rfl) Tryz.underlying45 (cv_BU _)) <| pv rfl (fun hS _ => r_move hS rfl) <| pv rfl (fun hS _ => r_bv hS rfl (show ev _ _ = some (N 8) from rfl) gN (b_remN _ _ _ (by omega))) <| pv rfl (fun hS _ => r_bv hS rfl (show ev _ _ = some (N 8) from rfl) gN (b_mulN _ _ _ (by omega))) <| pv rfl (fun hS _ => r_bv hS rfl rfl gU (b_shlU _ _ _ _)) ?_
    refine pv rfl (fun hS _ => r_bv hS rfl rfl gU (b_orU _ _ _)) <| pv rfl (fun hS _ => r_index0 hS rfl rfl Tryz.underlying378 sz45 (by omega)) ?_
    refine p_nil rfl ?_; intro a w hS hM
    refine s_storeU hS hM rfl rfl (j := 0) rfl sz45 (by omega) ?_; clear hS hM; intro a w hS hM
    refine s_nil <| k_in <| k_seq <| c_region ?_
    refine vg hS <| vv (r_bv · rfl (show ev _ _ = some (N 1) from rfl) gN (b_addN _ _ _ (by omega))) <| vm rfl ?_; clear hS; intro a hS
    refine s_nil <| k_then ?_
    refine ⟨k + 1, by omega, by omega, hS.to _ ⟨rfl, rfl, rfl, rfl, trivial⟩, (hM.congr (by rw [← of_step]; rfl))⟩
  · obtain rfl : k = 32 := by have := of_decide_eq_false hc; omega
    refine c_exit <| k_thenx <| k_thenx <| k_inx <| k_seq <| c_seq <| c_region ?_
    refine vg hS <| vv (r_index0 · rfl (show ev _ _ = some (.int .i64 ((0 : Nat) : Int)) from rfl) Tryz.underlying378 sz45 (by decide)) <| vv (r_load · hM rfl (j := 0) rfl Tryz.underlying45 rfl (cells_get (by omega))) <| vv (r_bv · rfl (show ev _ _ = some (U 2251799813685247#64) from rfl) gU (b_andU _ _ _)) <| vv (r_index0 · rfl (show ev _ _ = some (.int .i64 ((0 : Nat) : Int)) from rfl) Tryz.underlying378 sz45 (by decide)) <| vv (r_load · hM rfl (j := 0) rfl Tryz.underlying45 rfl (cells_get (by omega))) <| vv (r_bv · rfl (show ev _ _ = some (.int .u64 ((51 : Nat) : Int)) from rfl) gU (b_shrU _ _ _ 51)) <| vv (r_index0 · rfl (show ev _ _ = some (.int .i64 ((1 : Nat) : Int)) from rfl) Tryz.underlying378 sz45 (by decide)) <| vv (r_load · hM rfl (j := 0) rfl Tryz.underlying45 rfl (cells_get (by omega))) <| vv (r_bv · rfl (show ev _ _ = some (.int .u64 ((13 : Nat) : Int)) from rfl) gU (b_shlU _ _ _ 13)) <| vv (r_bv · rfl rfl gU (b_orU _ _ _)) ?_; clear hS; intro a hS
    refine vg hS <| vv (r_bv · rfl (show ev _ _ = some (U 2251799813685247#64) from rfl) gU (b_andU _ _ _)) <| vv (r_index0 · rfl (show ev _ _ = some (.int .i64 ((1 : Nat) : Int)) from rfl) Tryz.underlying378 sz45 (by decide)) <| vv (r_load · hM rfl (j := 0) rfl Tryz.underlying45 rfl (cells_get (by omega))) <| vv (r_bv · rfl (show ev _ _ = some (.int .u64 ((38 : Nat) : Int)) from rfl) gU (b_shrU _ _ _ 38)) <| vv (r_index0 · rfl (show ev _ _ = some (.int .i64 ((2 : Nat) : Int)) from rfl) Tryz.underlying378 sz45 (by decide)) <| vv (r_load · hM rfl (j := 0) rfl Tryz.underlying45 rfl (cells_get (by omega))) <| vv (r_bv · rfl (show ev _ _ = some (.int .u64 ((26 : Nat) : Int)) from rfl) gU (b_shlU _ _ _ 26)) <| vv (r_bv · rfl rfl gU (b_orU _ _ _)) <| vv (r_bv · rfl (show ev _ _ = some (U 2251799813685247#64) from rfl) gU (b_andU _ _ _)) <| vv (r_index0 · rfl (show ev _ _ = some (.int .i64 ((2 : Nat) : Int)) from rfl) Tryz.underlying378 sz45 (by decide)) ?_; clear hS; intro a hS
    refine vg hS <| vv (r_load · hM rfl (j := 0) rfl Tryz.underlying45 rfl (cells_get (by omega))) <| vv (r_bv · rfl (show ev _ _ = some (.int .u64 ((25 : Nat) : Int)) from rfl) gU (b_shrU _ _ _ 25)) <| vv (r_index0 · rfl (show ev _ _ = some (.int .i64 ((3 : Nat) : Int)) from rfl) Tryz.underlying378 sz45 (by decide)) <| vv (r_load · hM rfl (j := 0) rfl Tryz.underlying45 rfl (cells_get (by omega))) <| vv (r_bv · rfl (show ev _ _ = some (.int .u64 ((39 : Nat) : Int)) from rfl) gU (b_shlU _ _ _ 39)) <| vv (r_bv · rfl rfl gU (b_orU _ _ _)) <| vv (r_bv · rfl (show ev _ _ = some (U 2251799813685247#64) from rfl) gU (b_andU _ _ _)) <| vv (r_index0 · rfl (show ev _ _ = some (.int .i64 ((3 : Nat) : Int)) from rfl) Tryz.underlying378 sz45 (by decide)) <| vv (r_load · hM rfl (j := 0) rfl Tryz.underlying45 rfl (cells_get (by omega))) <| vv (r_bv · rfl (show ev _ _ = some (.int .u64 ((12 : Nat) : Int)) from rfl) gU (b_shrU _ _ _ 12)) ?_; clear hS; intro a hS
    refine vg hS <| vv (r_bv · rfl (show ev _ _ = some (U 2251799813685247#64) from rfl) gU (b_andU _ _ _)) <| vv (r_build · (vs := [(0, U _), (1, U _), (2, U _), (3, U _), (4, U _)]) rfl (build93 _ _ _ _ _)) <| vv (r_build · (vs := [(0, .agg (cU 5 _).toArray)]) rfl (bld95 _)) ?_; clear hS; intro a hS
    refine s_storeAll hS hM rfl rfl (j := 1) rfl sz95 cells_len cells_len cU_one ?_; clear hS hM; intro a w hS hM
    rw [from_cells] at hM
    refine s_nil <| k_seq <| c_ret ?_
    exact k_res1 hS rfl (RV.row rfl (hM.have_ _ (mem_of_get (j := 1) rfl)) Tryz.underlying95 rfl (by rw [sz95]; exact congrArg some cells_len.symm)) ⟨rfl, hM.done ⟨hb3, hb2, hb1, trivial⟩⟩
set_option maxRecDepth 100000 in
theorem small_ok (n : BitVec 64) (w0 : World) : Pure Tryz.prog 146 #[U n] w0 (.agg (cU 5 (limb51 n.toNat)).toArray) := by
  refine ⟨by kernel_rfl, ?_⟩
  refine calls_sym Tryz.func146 rfl (by kernel_rfl) ?_
  intro a hS
  have hM : Mem w0 w0 [] := Mem.refl w0
  refine c_seq <| c_region ?_
  refine s_alloc hS hM (by decide) zero95 ?_; clear hS hM; intro a b2 w hb2 hS hM
  refine s_nil <| k_seq <| c_seq <| c_region ?_
  refine vg hS <| vm rfl <| vv (r_bv · rfl (show ev _ _ = some (U 2251799813685247#64) from rfl) gU (b_andU _ _ _)) <| vm rfl <| vv (r_bv · rfl (show ev _ _ = some (.int .u64 ((51 : Nat) : Int)) from rfl) gU (b_shrU _ _ _ 51)) <| vv (r_build · (vs := [(0, U _), (1, U _)]) rfl (build93_2 _ _)) <| vv (r_build · (vs := [(0, .agg (cU 5 _).toArray)]) rfl (bld95 _)) ?_; clear hS; intro a hS
  refine s_storeAll hS hM rfl rfl (j := 0) rfl sz95 cells_len cells_len cU_one ?_; clear hS hM; intro a w hS hM
  rw [small_cells] at hM
  refine s_nil <| k_seq <| c_ret ?_
  exact k_res1 hS rfl (RV.row rfl (hM.have_ _ (mem_of_get (j := 0) rfl)) Tryz.underlying95 rfl (by rw [sz95]; exact congrArg some cells_len.symm)) ⟨rfl, hM.done ⟨hb2, trivial⟩⟩
set_option maxRecDepth 100000 in
theorem add_ok (x y : Nat → BitVec 64) (w0 : World) : Pure Tryz.prog 216 #[.agg (cU 5 x).toArray, .agg (cU 5 y).toArray] w0 (.agg (cU 5 (feAdd x y)).toArray) := by
  refine ⟨by kernel_rfl, ?_⟩
  refine calls_sym Tryz.func216 rfl (by kernel_rfl) ?_
  intro a hS
  have hM : Mem w0 w0 [] := Mem.refl w0
  refine c_seq <| c_region ?_
  refine s_box hS hM (by decide) rfl rfl ?_; clear hS hM; intro a b2 w hb2 hS hM
  refine s_box hS hM (by decide) rfl rfl ?_; clear hS hM; intro a b3 w hb3 hS hM
  refine s_alloc hS hM (by decide) zero95 ?_; clear hS hM; intro a b4 w hb4 hS hM
  refine s_nil <| k_seq <| c_seq <| c_seq <| c_region ?_
  refine vg hS <| vv (r_field0 · rfl Tryz.underlying95 rfl (s := 4) sz93 (k := 0) rfl) <| vv (r_loadAll · hM rfl (j := 1) rfl Tryz.underlying93 rfl sz93 cells_len) <| vv (r_move · (show ev _ _ = some (N 0) from rfl)) ?_; clear hS; intro a hS
  refine s_nil <| k_seq <| c_block ?_
  refine c_loop (σ := Nat) (fun k a w => (k ≤ 5) ∧ Slots a 24 (env [(2, ptr b2 0), (4, ptr b4 0), (8, .agg (cU 5 y).toArray), (9, N k)]) ∧ Mem w0 w ([⟨b4, 95, cU 5 (fun _ => 0)⟩, ⟨b3, 95, cU 5 y⟩, ⟨b2, 95, cU 5 (mapTo x (fun i => x i + y i) k)⟩])) (fun k => 5 - k) (0) ⟨by omega, hS.to _ ⟨rfl, rfl, rfl, rfl, trivial⟩, (by rw [mapTo_zero]; exact hM)⟩ ?_
  clear hS hM; rintro k a w ⟨hk, hS, hM⟩
  refine c_seq <| c_region ?_
  refine vg hS <| vv (r_bv · rfl (show ev _ _ = some (N 5) from rfl) gN (b_lssN _ _ _)) ?_; clear hS; intro a hS
  refine s_nil <| k_seq <| c_seq ?_
  refine c_cond hS rfl (fun hc => ?_) (fun hc => ?_)
  · have hk1 := of_decide_eq_true hc
    refine c_skip <| k_seq <| c_seq <| c_block <| c_seq <| c_region ?_
    refine vg hS <| vm rfl <| vv (r_index · rfl rfl Tryz.underlying93 sz45 Tryz.underlying45 rfl (by omega) (cells_get' (by omega))) <| va rfl <| va rfl ?_; clear hS; intro a hS
    refine s_nil <| k_seq <| c_region ?_
    refine vg hS <| vm rfl <| vv (r_field0 · rfl Tryz.underlying95 rfl (s := 4) sz93 (k := 0) rfl) <| vv (r_index0 · rfl rfl Tryz.underlying93 sz45 (by omega)) <| vv (r_load · hM rfl (j := 2) rfl Tryz.underlying45 rfl (cells_get (by omega))) <| vm rfl <| vv (r_bv · rfl rfl gU (b_addU _ _ _)) <| vv (r_field0 · rfl Tryz.underlying95 rfl (s := 4) sz93 (k := 0) rfl) <| vv (r_index0 · rfl rfl Tryz.underlying93 sz45 (by omega)) ?_; clear hS; intro a hS
    refine s_storeU hS hM rfl rfl (j := 2) rfl sz45 (by omega) ?_; clear hS hM; intro a w hS hM
    refine s_nil <| k_in <| k_seq <| c_region ?_
    refine vg hS <| vv (r_bv · rfl (show ev _ _ = some (N 1) from rfl) gN (b_addN _ _ _ (by omega))) <| vm rfl ?_; clear hS; intro a hS
    refine s_nil <| k_then ?_
    refine ⟨k + 1, by omega, by omega, hS.to _ ⟨rfl, rfl, rfl, rfl, trivial⟩, (hM.congr (by rw [← mapTo_step, mapTo_self]; rfl))⟩
  · obtain rfl : k = 5 := (by have := of_decide_eq_false hc; omega); rw [cU_mapTo] at hM
    refine c_exit <| k_thenx <| k_thenx <| k_inx <| k_seq <| c_seq <| c_region ?_
    refine vg hS <| vv (r_loadAll · hM rfl (j := 2) rfl Tryz.underlying95 rfl sz95 cells_len) ?_; clear hS; intro a hS
    refine s_pure hS hM (by decide) rfl (carry_ok _ _) ?_; clear hS hM; intro a w hS hM
    refine s_storeAll hS hM rfl rfl (j := 0) rfl sz95 cells_len cells_len cU_one ?_; clear hS hM; intro a w hS hM
    refine s_nil <| k_seq <| c_ret ?_
    exact k_res1 hS rfl (RV.row rfl (hM.have_ _ (mem_of_get (j := 0) rfl)) Tryz.underlying95 rfl (by rw [sz95]; exact congrArg some cells_len.symm)) ⟨rfl, hM.done ⟨hb4, hb3, hb2, trivial⟩⟩
set_option maxRecDepth 100000 in
theorem sub_ok (x y : Nat → BitVec 64) (w0 : World) : Pure Tryz.prog 215 #[.agg (cU 5 x).toArray, .agg (cU 5 y).toArray] w0 (.agg (cU 5 (feSub x y)).toArray) := by
  refine ⟨by kernel_rfl, ?_⟩
  refine calls_sym Tryz.func215 rfl (by kernel_rfl) ?_
  intro a hS
  have hM : Mem w0 w0 [] := Mem.refl w0
  refine c_seq <| c_region ?_
  refine s_box hS hM (by decide) rfl rfl ?_; clear hS hM; intro a b2 w hb2 hS hM
  refine s_box hS hM (by decide) rfl rfl ?_; clear hS hM; intro a b3 w hb3 hS hM
  refine s_alloc hS hM (by decide) zero95 ?_; clear hS hM; intro a b4 w hb4 hS hM
  refine s_nil <| k_seq <| c_seq <| c_region ?_
  refine vg hS <| vv (r_field0 · rfl Tryz.underlying95 rfl (s := 4) sz93 (k := 0) rfl) <| vv (r_index0 · rfl (show ev _ _ = some (.int .i64 ((0 : Nat) : Int)) from rfl) Tryz.underlying93 sz45 (by decide)) <| vv (r_load · hM rfl (j := 2) rfl Tryz.underlying45 rfl (cells_get (by omega))) <| vv (r_bv · rfl (show ev _ _ = some (U 4503599627370458#64) from rfl) gU (b_addU _ _ _)) <| vv (r_field0 · rfl Tryz.underlying95 rfl (s := 4) sz93 (k := 0) rfl) <| vv (r_index0 · rfl (show ev _ _ = some (.int .i64 ((0 : Nat) : Int)) from rfl) Tryz.underlying93 sz45 (by decide)) ?_; clear hS; intro a hS
  refine s_storeU hS hM rfl rfl (j := 2) rfl sz45 (by omega) ?_; clear hS hM; intro a w hS hM
  refine s_nil <| k_seq <| c_seq <| c_seq <| c_region ?_
  refine vg hS <| vv (r_assign · (show ev _ _ = some (N 1) from rfl)) ?_; clear hS; intro a hS
  refine s_nil <| k_seq <| c_block ?_
  refine c_loop (σ := Nat) (fun k a w => (1 ≤ k ∧ k ≤ 5) ∧ Slots a 42 (env [(2, ptr b2 0), (3, ptr b3 0), (4, ptr b4 0), (5, N k)]) ∧ Mem w0 w ([⟨b4, 95, cU 5 (fun _ => 0)⟩, ⟨b3, 95, cU 5 y⟩, ⟨b2, 95, cU 5 (mapTo x (fun i => x i + subP i) k)⟩])) (fun k => 5 - k) (1) ⟨by omega, hS.to _ ⟨rfl, rfl, rfl, rfl, trivial⟩, (by rw [mapTo_one]; exact hM)⟩ ?_
  clear hS hM; rintro k a w ⟨hk, hS, hM⟩
  refine c_seq <| c_seq <| c_region ?_
  refine vg hS <| vm rfl <| vv (r_bv · rfl (show ev _ _ = some (N 5) from rfl) gN (b_lssN _ _ _)) ?_; clear hS; intro a hS
  refine s_nil <| k_seq ?_
  refine c_cond hS rfl (fun hc => ?_) (fun hc => ?_)
  · have hk1 := of_decide_eq_true hc
    refine c_skip <| k_seq <| c_seq <| c_block <| c_region ?_
    refine vg hS <| vm rfl <| vv (r_field0 · rfl Tryz.underlying95 rfl (s := 4) sz93 (k := 0) rfl) <| vv (r_index0 · rfl rfl Tryz.underlying93 sz45 (by omega)) <| vv (r_load · hM rfl (j := 2) rfl Tryz.underlying45 rfl (cells_get (by omega))) <| vv (r_bv · rfl (show ev _ _ = some (U 4503599627370494#64) from rfl) gU (b_addU _ _ _)) <| vv (r_field0 · rfl Tryz.underlying95 rfl (s := 4) sz93 (k := 0) rfl) <| vv (r_index0 · rfl rfl Tryz.underlying93 sz45 (by omega)) ?_; clear hS; intro a hS
    refine s_storeU hS hM rfl rfl (j := 2) rfl sz45 (by omega) ?_; clear hS hM; intro a w hS hM
    refine s_nil <| k_in <| k_seq <| c_region ?_
    refine vg hS <| vm rfl <| vv (r_bv · rfl (show ev _ _ = some (N 1) from rfl) gN (b_addN _ _ _ (by omega))) <| va rfl ?_; clear hS; intro a hS
    refine s_nil <| k_then ?_
    refine ⟨k + 1, by omega, by omega, hS.to _ ⟨rfl, rfl, rfl, rfl, trivial⟩, (hM.congr (by rw [← sub_step1 _ _ hk.1]; rfl))⟩
  · obtain rfl : k = 5 := (by have := of_decide_eq_false hc; omega); rw [cU_mapTo] at hM
    refine c_exit <| k_thenx <| k_thenx <| k_inx <| k_seq <| c_seq <| c_seq <| c_region ?_
    refine vg hS <| vv (r_field0 · rfl Tryz.underlying95 rfl (s := 4) sz93 (k := 0) rfl) <| vv (r_loadAll · hM rfl (j := 1) rfl Tryz.underlying93 rfl sz93 cells_len) <| vv (r_move · (show ev _ _ = some (N 0) from rfl)) ?_; clear hS; intro a hS
    refine s_nil <| k_seq <| c_block ?_
    refine c_loop (σ := Nat) (fun k a w => (k ≤ 5) ∧ Slots a 42 (env [(2, ptr b2 0), (4, ptr b4 0), (26, .agg (cU 5 y).toArray), (27, N k)]) ∧ Mem w0 w ([⟨b4, 95, cU 5 (fun _ => 0)⟩, ⟨b3, 95, cU 5 y⟩, ⟨b2, 95, cU 5 (mapTo (fun i => x i + subP i) (fun i => x i + subP i - y i) k)⟩])) (fun k => 5 - k) (0) ⟨by omega, hS.to _ ⟨rfl, rfl, rfl, rfl, trivial⟩, (by rw [mapTo_zero]; exact hM)⟩ ?_
    clear hS hM; rintro k a w ⟨hk, hS, hM⟩
    refine c_seq <| c_region ?_
    refine vg hS <| vv (r_bv · rfl (show ev _ _ = some (N 5) from rfl) gN (b_lssN _ _ _)) ?_; clear hS; intro a hS
    refine s_nil <| k_seq <| c_seq ?_
    refine c_cond hS rfl (fun hc => ?_) (fun hc => ?_)
    · have hk1 := of_decide_eq_true hc
      refine c_skip <| k_seq <| c_seq <| c_block <| c_seq <| c_region ?_
      refine vg hS <| vm rfl <| vv (r_index · rfl rfl Tryz.underlying93 sz45 Tryz.underlying45 rfl (by omega) (cells_get' (by omega))) <| va rfl <| va rfl ?_; clear hS; intro a hS
      refine s_nil <| k_seq <| c_region ?_
      refine vg hS <| vm rfl <| vv (r_field0 · rfl Tryz.underlying95 rfl (s := 4) sz93 (k := 0) rfl) <| vv (r_index0 · rfl rfl Tryz.underlying93 sz45 (by omega)) <| vv (r_load · hM rfl (j := 2) rfl Tryz.underlying45 rfl (cells_get (by omega))) <| vm rfl <| vv (r_bv · rfl rfl gU (b_subU _ _ _)) <| vv (r_field0 · rfl Tryz.underlying95 rfl (s := 4) sz93 (k := 0) rfl) <| vv (r_index0 · rfl rfl Tryz.underlying93 sz45 (by omega)) ?_; clear hS; intro a hS
      refine s_storeU hS hM rfl rfl (j := 2) rfl sz45 (by omega) ?_; clear hS hM; intro a w hS hM
      refine s_nil <| k_in <| k_seq <| c_region ?_
      refine vg hS <| vv (r_bv · rfl (show ev _ _ = some (N 1) from rfl) gN (b_addN _ _ _ (by omega))) <| vm rfl ?_; clear hS; intro a hS
      refine s_nil <| k_then ?_
      refine ⟨k + 1, by omega, by omega, hS.to _ ⟨rfl, rfl, rfl, rfl, trivial⟩, (hM.congr (by rw [← mapTo_step, mapTo_self]; rfl))⟩
    · obtain rfl : k = 5 := (by have := of_decide_eq_false hc; omega); rw [cU_mapTo] at hM
      refine c_exit <| k_thenx <| k_thenx <| k_inx <| k_seq <| c_seq <| c_region ?_
      refine vg hS <| vv (r_loadAll · hM rfl (j := 2) rfl Tryz.underlying95 rfl sz95 cells_len) ?_; clear hS; intro a hS
      refine s_pure hS hM (by decide) rfl (carry_ok _ _) ?_; clear hS hM; intro a w hS hM
      refine s_storeAll hS hM rfl rfl (j := 0) rfl sz95 cells_len cells_len cU_one ?_; clear hS hM; intro a w hS hM
      refine s_nil <| k_seq <| c_ret ?_
      exact k_res1 hS rfl (RV.row rfl (hM.have_ _ (mem_of_get (j := 0) rfl)) Tryz.underlying95 rfl (by rw [sz95]; exact congrArg some cells_len.symm)) ⟨rfl, hM.done ⟨hb4, hb3, hb2, trivial⟩⟩
set_option maxRecDepth 100000 in
theorem long_ok (w0 : World) (b o : Nat) (f : Nat → BitVec 64) (hb : w0.heap[b]? = some (.cells (cU 10 f).toArray 287 (0, 0))) (ho : o + 1 < 10) (x y : BitVec 64) : Wrote Tryz.prog 219 #[ptr b o, U x, U y] w0 b 287 (cU 10 (addG f o x y)) (.tuple #[]) := by
  refine ⟨by kernel_rfl, ?_⟩
  refine calls_sym Tryz.func219 rfl (by kernel_rfl) ?_
  intro a hS
  have hM : Mem w0 w0 [⟨b, 287, cU 10 f⟩] := Mem.start hb
  refine c_seq <| c_region ?_
  refine vg hS <| vm rfl <| vm rfl ?_; clear hS; intro a hS
  refine s_pure hS hM (by decide) rfl (mul64_ok _ _ _) ?_; clear hS hM; intro a w hS hM
  refine vg hS <| vm rfl <| vv (r_extract · rfl rfl) <| vv (r_extract · rfl rfl) <| va rfl <| va rfl ?_; clear hS; intro a hS
  refine s_nil <| k_seq <| c_seq <| c_region ?_
  refine vg hS <| vv (r_assign · (show ev _ _ = some (U 0#64) from rfl)) ?_; clear hS; intro a hS
  refine s_nil <| k_seq <| c_seq <| c_region ?_
  refine vg hS <| vm rfl <| vm rfl <| vv (r_nilCheck · rfl) <| vv (r_fieldA · rfl Tryz.underlying286 rfl (s := 0) sz45 (k := 1) rfl) <| vv (r_load · hM rfl (j := 0) rfl Tryz.underlying45 rfl (cells_get (by omega))) <| vm rfl <| vv (r_ext ext275 · (vs := [_, _, U 0#64]) rfl (run_add _ _ _ (by decide))) <| vm rfl <| vv (r_extract · rfl rfl) <| vv (r_extract · rfl rfl) ?_; clear hS; intro a hS
  refine vg hS <| vv (r_nilCheck · rfl) <| vv (r_fieldA · rfl Tryz.underlying286 rfl (s := 0) sz45 (k := 1) rfl) ?_; clear hS; intro a hS
  refine s_storeU hS hM rfl rfl (j := 0) rfl sz45 (by omega) ?_; clear hS hM; intro a w hS hM
  refine vg hS <| va rfl ?_; clear hS; intro a hS
  refine s_nil <| k_seq <| c_region ?_
  refine vg hS <| vm rfl <| vm rfl <| vv (r_nilCheck · rfl) <| vv (r_fieldZ · rfl Tryz.underlying286 rfl (s := 0) sz45 rfl) <| vv (r_load · hM rfl (j := 0) rfl Tryz.underlying45 rfl (cells_get (by omega))) <| vm rfl <| vm rfl <| vv (r_ext ext275 · rfl (run_add _ _ _ (cout_le _ _ _ (by decide)))) <| vm rfl <| vv (r_extract · rfl rfl) ?_; clear hS; intro a hS
  refine vg hS <| vv (r_extract · rfl rfl) <| vv (r_nilCheck · rfl) <| vv (r_fieldZ · rfl Tryz.underlying286 rfl (s := 0) sz45 rfl) ?_; clear hS; intro a hS
  refine s_storeU hS hM rfl rfl (j := 0) rfl sz45 (by omega) ?_; clear hS hM; intro a w hS hM
  refine s_nil ?_
  exact k_res0n hS rfl ⟨rfl, hM.congr (by rw [upd_ne _ _ (show o ≠ o + 1 by omega)]; rfl)⟩
set_option maxRecDepth 100000 in
theorem mul_ok (x y : Nat → BitVec 64) (w0 : World) : Pure Tryz.prog 145 #[.agg (cU 5 x).toArray, .agg (cU 5 y).toArray] w0 (.agg (cU 5 (feMul x y)).toArray) := by
  refine ⟨by kernel_rfl, ?_⟩
  refine calls_sym Tryz.func145 rfl (by kernel_rfl) ?_
  intro a hS
  have hM : Mem w0 w0 [] := Mem.refl w0
  refine c_seq <| c_region ?_
  refine s_box hS hM (by decide) rfl rfl ?_; clear hS hM; intro a b2 w hb2 hS hM
  refine s_box hS hM (by decide) rfl rfl ?_; clear hS hM; intro a b3 w hb3 hS hM
  refine s_alloc hS hM (by decide) zero95 ?_; clear hS hM; intro a b4 w hb4 hS hM
  refine s_nil <| k_seq <| c_seq <| c_region ?_
  refine s_alloc hS hM (by decide) zero287 ?_; clear hS hM; intro a b5 w hb5 hS hM
  refine s_nil <| k_seq <| c_seq <| c_seq <| c_region ?_
  refine vg hS <| vv (r_field0 · rfl Tryz.underlying95 rfl (s := 4) sz93 (k := 0) rfl) <| vv (r_loadAll · hM rfl (j := 3) rfl Tryz.underlying93 rfl sz93 cells_len) <| vv (r_move · (show ev _ _ = some (N 0) from rfl)) ?_; clear hS; intro a hS
  refine s_nil <| k_seq <| c_block ?_
  refine c_loop (σ := Nat) (fun i a w => (i ≤ 5) ∧ Slots a 93 (env [(3, ptr b3 0), (4, ptr b4 0), (5, ptr b5 0), (15, .agg (cU 5 x).toArray), (16, N i)]) ∧ Mem w0 w ([⟨b5, 287, cU 10 (mulG x y i)⟩, ⟨b4, 95, cU 5 (fun _ => 0)⟩, ⟨b3, 95, cU 5 y⟩, ⟨b2, 95, cU 5 x⟩])) (fun i => 5 - i) (0) ⟨by omega, hS.to _ ⟨rfl, rfl, rfl, rfl, rfl, trivial⟩, hM⟩ ?_
  clear hS hM; rintro i a w ⟨hk, hS, hM⟩
  refine c_seq <| c_region ?_
  refine vg hS <| vv (r_bv · rfl (show ev _ _ = some (N 5) from rfl) gN (b_lssN _ _ _)) ?_; clear hS; intro a hS
  refine s_nil <| k_seq <| c_seq ?_
  refine c_cond hS rfl (fun hc => ?_) (fun hc => ?_)
  · have hk1 := of_decide_eq_true hc
    refine c_skip <| k_seq <| c_seq <| c_block <| c_seq <| c_region ?_
    refine vg hS <| vm rfl <| vv (r_index · rfl rfl Tryz.underlying93 sz45 Tryz.underlying45 rfl (by omega) (cells_get' (by omega))) <| va rfl <| va rfl ?_; clear hS; intro a hS
    refine s_nil <| k_seq <| c_seq <| c_region ?_
    refine vg hS <| vv (r_field0 · rfl Tryz.underlying95 rfl (s := 4) sz93 (k := 0) rfl) <| vv (r_loadAll · hM rfl (j := 2) rfl Tryz.underlying93 rfl sz93 cells_len) <| vv (r_move · (show ev _ _ = some (N 0) from rfl)) ?_; clear hS; intro a hS
    refine s_nil <| k_seq <| c_block ?_
    refine c_loop (σ := Nat) (fun j a w => (j ≤ 5) ∧ Slots a 93 (env [(3, ptr b3 0), (4, ptr b4 0), (5, ptr b5 0), (6, N i), (7, U (x i)), (15, .agg (cU 5 x).toArray), (16, N i), (21, .agg (cU 5 y).toArray), (22, N j)]) ∧ Mem w0 w ([⟨b5, 287, cU 10 (rowG x y i j (mulG x y i))⟩, ⟨b4, 95, cU 5 (fun _ => 0)⟩, ⟨b3, 95, cU 5 y⟩, ⟨b2, 95, cU 5 x⟩])) (fun j => 5 - j) (0) ⟨by omega, hS.to _ ⟨rfl, rfl, rfl, rfl, rfl, rfl, rfl, rfl, rfl, trivial⟩, hM⟩ ?_
    clear hS hM; rintro j a w ⟨hk, hS, hM⟩
    refine c_seq <| c_region ?_
    refine vg hS <| vv (r_bv · rfl (show ev _ _ = some (N 5) from rfl) gN (b_lssN _ _ _)) ?_; clear hS; intro a hS
    refine s_nil <| k_seq <| c_seq ?_
    refine c_cond hS rfl (fun hc => ?_) (fun hc => ?_)
    · have hk1 := of_decide_eq_true hc
      refine c_skip <| k_seq <| c_seq <| c_block <| c_seq <| c_region ?_
      refine vg hS <| vm rfl <| vv (r_index · rfl rfl Tryz.underlying93 sz45 Tryz.underlying45 rfl (by omega) (cells_get' (by omega))) <| va rfl <| va rfl ?_; clear hS; intro a hS
      refine s_nil <| k_seq <| c_seq <| c_region ?_
      refine vg hS <| vm rfl <| vm rfl <| vv (r_bv · rfl rfl gN (b_addN _ _ _ (by omega))) <| vv (r_bv · rfl (show ev _ _ = some (N 5) from rfl) gN (b_lssN _ _ _)) ?_; clear hS; intro a hS
      refine s_nil <| k_seq ?_
      refine c_cond hS rfl (fun hc => ?_) (fun hc => ?_)
      · have hk2 := of_decide_eq_true hc
        refine c_region ?_
        refine vg hS <| vm rfl <| vm rfl <| vv (r_bv · rfl rfl gN (b_addN _ _ _ (by omega))) <| vv (r_index0z · rfl rfl Tryz.underlying287 sz286 (by omega)) <| vm rfl <| vm rfl ?_; clear hS; intro a hS
        refine s_wrote hS hM (by decide) rfl (j := 0) rfl (long_ok _ _ _ _ (hM.block (j := 0) rfl) (by omega) _ _) ?_; clear hS hM; intro a w hS hM
        refine s_nil <| k_in <| k_seq <| c_region ?_
        refine vg hS <| vv (r_bv · rfl (show ev _ _ = some (N 1) from rfl) gN (b_addN _ _ _ (by omega))) <| vm rfl ?_; clear hS; intro a hS
        refine s_nil <| k_then ?_
        refine ⟨j + 1, by omega, by omega, hS.to _ ⟨rfl, rfl, rfl, rfl, rfl, rfl, rfl, rfl, rfl, trivial⟩, (by first | exact hM.congr (by rw [rowG_lo _ _ _ _ _ (by omega)]; rfl) | exact hM.congr (by rw [rowG_hi _ _ _ _ _ (by omega)]; rfl))⟩
      · have hk2 := of_decide_eq_false hc
        refine c_region ?_
        refine vg hS <| vm rfl <| vm rfl <| vv (r_bv · rfl rfl gN (b_addN _ _ _ (by omega))) <| vv (r_bv · rfl (show ev _ _ = some (N 5) from rfl) gN (b_subN _ _ _ (by omega) (by omega))) <| vv (r_index0z · rfl rfl Tryz.underlying287 sz286 (by omega)) <| vm rfl <| vv (r_bv · rfl (show ev _ _ = some (U 19#64) from rfl) gU (b_mulU _ _ _)) <| vm rfl ?_; clear hS; intro a hS
        refine s_wrote hS hM (by decide) rfl (j := 0) rfl (long_ok _ _ _ _ (hM.block (j := 0) rfl) (by omega) _ _) ?_; clear hS hM; intro a w hS hM
        refine s_nil <| k_in <| k_seq <| c_region ?_
        refine vg hS <| vv (r_bv · rfl (show ev _ _ = some (N 1) from rfl) gN (b_addN _ _ _ (by omega))) <| vm rfl ?_; clear hS; intro a hS
        refine s_nil <| k_then ?_
        refine ⟨j + 1, by omega, by omega, hS.to _ ⟨rfl, rfl, rfl, rfl, rfl, rfl, rfl, rfl, rfl, trivial⟩, (by first | exact hM.congr (by rw [rowG_lo _ _ _ _ _ (by omega)]; rfl) | exact hM.congr (by rw [rowG_hi _ _ _ _ _ (by omega)]; rfl))⟩
    · obtain rfl : j = 5 := by have := of_decide_eq_false hc; omega
      refine c_exit <| k_thenx <| k_thenx <| k_inx <| k_in <| k_seq <| c_region ?_
      refine vg hS <| vv (r_bv · rfl (show ev _ _ = some (N 1) from rfl) gN (b_addN _ _ _ (by omega))) <| vm rfl ?_; clear hS; intro a hS
      refine s_nil <| k_then ?_
      refine ⟨i + 1, by omega, by omega, hS.to _ ⟨rfl, rfl, rfl, rfl, rfl, trivial⟩, hM⟩
  · obtain rfl : i = 5 := by have := of_decide_eq_false hc; omega
    refine c_exit <| k_thenx <| k_thenx <| k_inx <| k_seq <| c_seq <| c_region ?_
    refine s_alloc hS hM (by decide) zero95 ?_; clear hS hM; intro a b10 w hb10 hS hM
    refine s_nil <| k_seq <| c_seq <| c_seq <| c_region ?_
    refine vg hS <| vv (r_loadAll · hM rfl (j := 1) rfl Tryz.underlying287 rfl sz287 cells_len) <| vv (r_move · (show ev _ _ = some (N 0) from rfl)) ?_; clear hS; intro a hS
    refine s_nil <| k_seq <| c_block ?_
    refine c_loop (σ := Nat) (fun k a w => (k ≤ 5) ∧ Slots a 93 (env [(4, ptr b4 0), (10, ptr b10 0), (48, .agg (cU 10 (mulG x y 5)).toArray), (49, N k)]) ∧ Mem w0 w ([⟨b10, 95, cU 5 (outK (mulG x y 5) k)⟩, ⟨b5, 287, cU 10 (mulG x y 5)⟩, ⟨b4, 95, cU 5 (fun _ => 0)⟩, ⟨b3, 95, cU 5 y⟩, ⟨b2, 95, cU 5 x⟩])) (fun k => 5 - k) (0) ⟨by omega, hS.to _ ⟨rfl, rfl, rfl, rfl, trivial⟩, (by rw [outK_zero]; exact hM)⟩ ?_
    clear hS hM; rintro k a w ⟨hk, hS, hM⟩
    refine c_seq <| c_region ?_
    refine vg hS <| vv (r_bv · rfl (show ev _ _ = some (N 5) from rfl) gN (b_lssN _ _ _)) ?_; clear hS; intro a hS
    refine s_nil <| k_seq <| c_seq ?_
    refine c_cond hS rfl (fun hc => ?_) (fun hc => ?_)
    · have hk1 := of_decide_eq_true hc; rw [outK_lt _ _ hk1] at hM
      refine c_skip <| k_seq <| c_seq <| c_block <| c_seq <| c_region ?_
      refine vg hS <| vm rfl <| vv (r_indexE · rfl rfl Tryz.underlying287 sz286 Tryz.underlying286 rfl (by omega) (by omega)) ?_; clear hS; intro a hS
      refine s_alloc hS hM (by decide) zero286 ?_; clear hS hM; intro a b12 w hb12 hS hM
      refine vg hS <| va rfl ?_; clear hS; intro a hS
      refine s_storeAll hS hM rfl rfl (j := 0) rfl sz286 cells_len cells_len cU_one ?_; clear hS hM; intro a w hS hM
      refine s_nil <| k_seq <| c_seq ?_
      refine c_plan 10 (fun w => Mem w0 w _) [(11, _), (10, _), (12, _), (4, _), (48, _), (49, _), (50, _), (51, _), (52, _)] (by kernel_rfl) (by kernel_rfl) hS ⟨rfl, rfl, rfl, rfl, rfl, rfl, rfl, rfl, rfl, trivial⟩ (hM.drawn _) ?_; clear hS hM
      refine pv rfl (fun hS _ => r_move hS rfl) <| pv rfl (fun hS _ => r_field0 hS rfl Tryz.underlying95 rfl (s := 4) sz93 (k := 0) rfl) <| pv rfl (fun hS _ => r_index0 hS rfl rfl Tryz.underlying93 sz45 (by omega)) <| pv rfl (fun hS hM => r_load hS hM rfl (j := 1) rfl Tryz.underlying45 rfl (cells_get (by omega))) <| pv rfl (fun hS _ => r_field0 hS rfl Tryz.underlying286 rfl (s := 0) sz45 (k := 1) rfl) <| pv rfl (fun hS hM => r_load hS hM rfl (j := 0) rfl Tryz.underlying45 rfl (cells_get (by omega))) <| pv rfl (fun hS _ => r_bv hS rfl (show ev _ _ = some (U 2251799813685247#64) from rfl) gU (b_andU _ _ _)) <| pv rfl (fun hS _ => r_bv hS rfl rfl gU (b_addU _ _ _)) <| pv rfl (fun hS _ => r_field0 hS rfl Tryz.underlying95 rfl (s := 4) sz93 (k := 0) rfl) <| pv rfl (fun hS _ => r_index0 hS rfl rfl Tryz.underlying93 sz45 (by omega)) ?_
      refine p_nil rfl ?_; intro a w hS hM
      refine s_storeU hS hM rfl rfl (j := 1) rfl sz45 (by omega) ?_; clear hS hM; intro a w hS hM
      refine s_nil <| k_seq <| c_seq <| c_region ?_
      refine vg hS <| vv (r_field0 · rfl Tryz.underlying286 rfl (s := 0) sz45 (k := 0) rfl) <| vv (r_load · hM rfl (j := 0) rfl Tryz.underlying45 rfl (cells_get (by omega))) <| vv (r_bv · rfl (show ev _ _ = some (.int .u64 ((13 : Nat) : Int)) from rfl) gU (b_shlU _ _ _ 13)) <| vv (r_field0 · rfl Tryz.underlying286 rfl (s := 0) sz45 (k := 1) rfl) <| vv (r_load · hM rfl (j := 0) rfl Tryz.underlying45 rfl (cells_get (by omega))) <| vv (r_bv · rfl (show ev _ _ = some (.int .u64 ((51 : Nat) : Int)) from rfl) gU (b_shrU _ _ _ 51)) <| vv (r_bv · rfl rfl gU (b_orU _ _ _)) <| va rfl ?_; clear hS; intro a hS
      refine s_nil <| k_seq <| c_seq <| c_region ?_
      refine vg hS <| vm rfl <| vv (r_bv · rfl (show ev _ _ = some (N 1) from rfl) gN (b_addN _ _ _ (by omega))) <| vv (r_bv · rfl (show ev _ _ = some (N 5) from rfl) gN (b_lssN _ _ _)) ?_; clear hS; intro a hS
      refine s_nil <| k_seq ?_
      refine c_cond hS rfl (fun hc => ?_) (fun hc => ?_)
      · have hk2 := of_decide_eq_true hc
        refine c_region ?_
        refine vg hS <| vm rfl <| vv (r_bv · rfl (show ev _ _ = some (N 1) from rfl) gN (b_addN _ _ _ (by omega))) <| vv (r_field0 · rfl Tryz.underlying95 rfl (s := 4) sz93 (k := 0) rfl) <| vv (r_index0 · rfl rfl Tryz.underlying93 sz45 (by omega)) <| vv (r_load · hM rfl (j := 1) rfl Tryz.underlying45 rfl (cells_get (by omega))) <| vm rfl <| vv (r_bv · rfl rfl gU (b_addU _ _ _)) <| vv (r_field0 · rfl Tryz.underlying95 rfl (s := 4) sz93 (k := 0) rfl) <| vv (r_index0 · rfl rfl Tryz.underlying93 sz45 (by omega)) ?_; clear hS; intro a hS
        refine s_storeU hS hM rfl rfl (j := 1) rfl sz45 (by omega) ?_; clear hS hM; intro a w hS hM
        refine s_nil <| k_in <| k_seq <| c_region ?_
        refine vg hS <| vv (r_bv · rfl (show ev _ _ = some (N 1) from rfl) gN (b_addN _ _ _ (by omega))) <| vm rfl ?_; clear hS; intro a hS
        refine s_nil <| k_then ?_
        refine ⟨k + 1, by omega, by omega, hS.to _ ⟨rfl, rfl, rfl, rfl, trivial⟩, (by first | exact (hM.drop hb12).congr (by rw [outK_lt _ _ hk2, ← outTo_step _ _ hk2]; rfl) | exact (hM.drop hb12).congr (by subst hk4; rw [outK_five, ← outTo_last]; rfl))⟩
      · have hk4 : k = 4 := by have := of_decide_eq_false hc; omega
        refine c_region ?_
        refine vg hS <| vv (r_field0 · rfl Tryz.underlying95 rfl (s := 4) sz93 (k := 0) rfl) <| vv (r_index0 · rfl (show ev _ _ = some (.int .i64 ((0 : Nat) : Int)) from rfl) Tryz.underlying93 sz45 (by decide)) <| vv (r_load · hM rfl (j := 1) rfl Tryz.underlying45 rfl (cells_get (by omega))) <| vm rfl <| vv (r_bv · rfl (show ev _ _ = some (U 19#64) from rfl) gU (b_mulU _ _ _)) <| vv (r_bv · rfl rfl gU (b_addU _ _ _)) <| vv (r_field0 · rfl Tryz.underlying95 rfl (s := 4) sz93 (k := 0) rfl) <| vv (r_index0 · rfl (show ev _ _ = some (.int .i64 ((0 : Nat) : Int)) from rfl) Tryz.underlying93 sz45 (by decide)) ?_; clear hS; intro a hS
        refine s_storeU hS hM rfl rfl (j := 1) rfl sz45 (by omega) ?_; clear hS hM; intro a w hS hM
        refine s_nil <| k_in <| k_seq <| c_region ?_
        refine vg hS <| vv (r_bv · rfl (show ev _ _ = some (N 1) from rfl) gN (b_addN _ _ _ (by omega))) <| vm rfl ?_; clear hS; intro a hS
        refine s_nil <| k_then ?_
        refine ⟨k + 1, by omega, by omega, hS.to _ ⟨rfl, rfl, rfl, rfl, trivial⟩, (by first | exact (hM.drop hb12).congr (by rw [outK_lt _ _ hk2, ← outTo_step _ _ hk2]; rfl) | exact (hM.drop hb12).congr (by subst hk4; rw [outK_five, ← outTo_last]; rfl))⟩
    · obtain rfl : k = 5 := (by have := of_decide_eq_false hc; omega); rw [outK_five] at hM
      refine c_exit <| k_thenx <| k_thenx <| k_inx <| k_seq <| c_seq <| c_region ?_
      refine vg hS <| vv (r_loadAll · hM rfl (j := 0) rfl Tryz.underlying95 rfl sz95 cells_len) ?_; clear hS; intro a hS
      refine s_pure hS hM (by decide) rfl (carry_ok _ _) ?_; clear hS hM; intro a w hS hM
      refine s_storeAll hS hM rfl rfl (j := 2) rfl sz95 cells_len cells_len cU_one ?_; clear hS hM; intro a w hS hM
      refine s_nil <| k_seq <| c_ret ?_
      exact k_res1 hS rfl (RV.row rfl (hM.have_ _ (mem_of_get (j := 2) rfl)) Tryz.underlying95 rfl (by rw [sz95]; exact congrArg some cells_len.symm)) ⟨rfl, hM.done ⟨hb10, hb5, hb4, hb3, hb2, trivial⟩⟩
set_option maxRecDepth 100000 in
theorem square_ok (x : Nat → BitVec 64) (w0 : World) : Pure Tryz.prog 223 #[.agg (cU 5 x).toArray] w0 (.agg (cU 5 (feMul x x)).toArray) := by
  refine ⟨by kernel_rfl, ?_⟩
  refine calls_sym Tryz.func223 rfl (by kernel_rfl) ?_
  intro a hS
  have hM : Mem w0 w0 [] := Mem.refl w0
  refine c_seq <| c_region ?_
  refine s_box hS hM (by decide) rfl rfl ?_; clear hS hM; intro a b1 w hb1 hS hM
  refine s_alloc hS hM (by decide) zero95 ?_; clear hS hM; intro a b2 w hb2 hS hM
  refine s_nil <| k_seq <| c_seq <| c_region ?_
  refine vg hS <| vv (r_loadAll · hM rfl (j := 1) rfl Tryz.underlying95 rfl sz95 cells_len) <| vv (r_loadAll · hM rfl (j := 1) rfl Tryz.underlying95 rfl sz95 cells_len) ?_; clear hS; intro a hS
  refine s_pure hS hM (by decide) rfl (mul_ok _ _ _) ?_; clear hS hM; intro a w hS hM
  refine s_storeAll hS hM rfl rfl (j := 0) rfl sz95 cells_len cells_len cU_one ?_; clear hS hM; intro a w hS hM
  refine s_nil <| k_seq <| c_ret ?_
  exact k_res1 hS rfl (RV.row rfl (hM.have_ _ (mem_of_get (j := 0) rfl)) Tryz.underlying95 rfl (by rw [sz95]; exact congrArg some cells_len.symm)) ⟨rfl, hM.done ⟨hb2, hb1, trivial⟩⟩
set_option maxRecDepth 100000 in
theorem neg_ok (x : Nat → BitVec 64) (w0 : World) : Pure Tryz.prog 319 #[.agg (cU 5 x).toArray] w0 (.agg (cU 5 (feSub (fun _ => 0) x)).toArray) := by
  refine ⟨by kernel_rfl, ?_⟩
  refine calls_sym Tryz.func319 rfl (by kernel_rfl) ?_
  intro a hS
  have hM : Mem w0 w0 [] := Mem.refl w0
  refine c_seq <| c_region ?_
  refine s_box hS hM (by decide) rfl rfl ?_; clear hS hM; intro a b1 w hb1 hS hM
  refine s_alloc hS hM (by decide) zero95 ?_; clear hS hM; intro a b2 w hb2 hS hM
  refine s_nil <| k_seq <| c_seq <| c_region ?_
  refine vg hS <| vv (fun hS => r_build hS rfl (cs := cU 5 (fun _ => 0)) (fun _ => by kernel_rfl)) <| vv (r_loadAll · hM rfl (j := 1) rfl Tryz.underlying95 rfl sz95 cells_len) ?_; clear hS; intro a hS
  refine s_pure hS hM (by decide) rfl (sub_ok _ _ _) ?_; clear hS hM; intro a w hS hM
  refine s_storeAll hS hM rfl rfl (j := 0) rfl sz95 cells_len cells_len cU_one ?_; clear hS hM; intro a w hS hM
  refine s_nil <| k_seq <| c_ret ?_
  exact k_res1 hS rfl (RV.row rfl (hM.have_ _ (mem_of_get (j := 0) rfl)) Tryz.underlying95 rfl (by rw [sz95]; exact congrArg some cells_len.symm)) ⟨rfl, hM.done ⟨hb2, hb1, trivial⟩⟩
set_option maxRecDepth 100000 in
theorem equal_ok (x y : Nat → BitVec 64) (hx : Ok x) (hy : Ok y) (w0 : World) : Pure Tryz.prog 318 #[.agg (cU 5 x).toArray, .agg (cU 5 y).toArray] w0 (.bool (decide (val x % pP = val y % pP))) := by
  refine ⟨by kernel_rfl, ?_⟩
  refine calls_sym Tryz.func318 rfl (by kernel_rfl) ?_
  intro a hS
  have hM : Mem w0 w0 [] := Mem.refl w0
  refine c_seq <| c_region ?_
  refine s_box hS hM (by decide) rfl rfl ?_; clear hS hM; intro a b2 w hb2 hS hM
  refine s_box hS hM (by decide) rfl rfl ?_; clear hS hM; intro a b3 w hb3 hS hM
  refine vg hS <| va rfl ?_; clear hS; intro a hS
  refine s_nil <| k_seq <| c_seq ?_
  refine c_plan 6 (fun w => Mem w0 w _) [(2, _), (3, _)] (by kernel_rfl) (by kernel_rfl) hS ⟨rfl, rfl, trivial⟩ (hM.drawn _) ?_; clear hS hM
  refine pv rfl (fun hS hM => r_loadAll hS hM rfl (j := 1) rfl Tryz.underlying95 rfl sz95 cells_len) ?_
  refine p_step rfl (fun a w hS hM => y_call (by kernel_rfl) hS rfl ((bytes_ok _ (by assumption) _).mem hM)) ?_
  refine pv rfl (fun hS hM => r_loadAll hS hM rfl (j := 0) rfl Tryz.underlying95 rfl sz95 cells_len) ?_
  refine p_step rfl (fun a w hS hM => y_call (by kernel_rfl) hS rfl ((bytes_ok _ (by assumption) _).mem hM)) ?_
  refine pv rfl (fun hS _ => r_eqlB hS rfl rfl (by kernel_rfl) Tryz.underlying27 Tryz.underlying5 sz5) <| pv rfl (fun hS _ => r_assign hS rfl) ?_
  refine p_nil rfl ?_; intro a w hS hM
  refine s_nil <| k_seq <| c_ret ?_
  exact k_res1 hS rfl (RV.tmp rfl) ⟨(congrArg (fun q => Ending.returned (.bool q)) (eqR_byt (val_lt256 x) (val_lt256 y))), hM.done ⟨hb3, hb2, trivial⟩⟩
set_option maxRecDepth 100000 in
theorem iszero_ok (x : Nat → BitVec 64) (hx : Ok x) (w0 : World) : Pure Tryz.prog 277 #[.agg (cU 5 x).toArray] w0 (.bool (decide (val x % pP = 0))) := by
  refine ⟨by kernel_rfl, ?_⟩
  refine calls_sym Tryz.func277 rfl (by kernel_rfl) ?_
  intro a hS
  have hM : Mem w0 w0 [] := Mem.refl w0
  refine c_seq <| c_region ?_
  refine s_box hS hM (by decide) rfl rfl ?_; clear hS hM; intro a b1 w hb1 hS hM
  refine vg hS <| va rfl ?_; clear hS; intro a hS
  refine s_nil <| k_seq <| c_seq <| c_region ?_
  refine vg hS <| vv (r_loadAll · hM rfl (j := 0) rfl Tryz.underlying95 rfl sz95 cells_len) <| vv (fun hS => r_build hS rfl (cs := cU 5 (fun _ => 0)) (fun _ => by kernel_rfl)) ?_; clear hS; intro a hS
  refine s_pure hS hM (by decide) rfl (equal_ok _ _ (by assumption) (by first | assumption | exact zero_ok) _) ?_; clear hS hM; intro a w hS hM
  refine vg hS <| va rfl ?_; clear hS; intro a hS
  refine s_nil <| k_seq <| c_ret ?_
  exact k_res1 hS rfl (RV.tmp rfl) ⟨rfl, hM.done ⟨hb1, trivial⟩⟩
set_option maxRecDepth 100000 in
theorem odd_ok (x : Nat → BitVec 64) (hx : Ok x) (w0 : World) : Pure Tryz.prog 86 #[.agg (cU 5 x).toArray] w0 (.bool (decide (val x % pP % 2 = 1))) := by
  refine ⟨by kernel_rfl, ?_⟩
  refine calls_sym Tryz.func86 rfl (by kernel_rfl) ?_
  intro a hS
  have hM : Mem w0 w0 [] := Mem.refl w0
  refine c_seq <| c_region ?_
  refine s_box hS hM (by decide) rfl rfl ?_; clear hS hM; intro a b1 w hb1 hS hM
  refine vg hS <| va rfl ?_; clear hS; intro a hS
  refine s_nil <| k_seq <| c_seq <| c_region ?_
  refine vg hS <| vv (r_loadAll · hM rfl (j := 0) rfl Tryz.underlying95 rfl sz95 cells_len) ?_; clear hS; intro a hS
  refine s_pure hS hM (by decide) rfl (bytes_ok _ (by assumption) _) ?_; clear hS hM; intro a w hS hM
  refine vg hS <| vv (r_index · rfl (show ev _ _ = some (.int .i64 ((0 : Nat) : Int)) from rfl) Tryz.underlying27 sz5 Tryz.underlying5 rfl (by decide) (cells_get' (by omega))) <| vv (r_bv · rfl (show ev _ _ = some (B 1#8) from rfl) gB (b_andB _ _ _)) <| vv (r_bv · rfl (show ev _ _ = some (B 1#8) from rfl) gB (b_eqlB _ _ _)) <| va rfl ?_; clear hS; intro a hS
  refine s_nil <| k_seq <| c_ret ?_
  exact k_res1 hS rfl (RV.tmp rfl) ⟨(congrArg (fun q => Ending.returned (.bool q)) (odd_byt _)), hM.done ⟨hb1, trivial⟩⟩
set_option maxRecDepth 100000 in
theorem canon_ok (f : Nat → BitVec 8) (w0 : World) : Pure Tryz.prog 332 #[.agg (cB 32 f).toArray] w0 (.bool (decide (natB f 32 % 2 ^ 255 < pP))) := by
  refine ⟨by kernel_rfl, ?_⟩
  refine calls_sym Tryz.func332 rfl (by kernel_rfl) ?_
  intro a hS
  have hM : Mem w0 w0 [] := Mem.refl w0
  refine c_seq <| c_region ?_
  refine s_box hS hM (by decide) rfl rfl ?_; clear hS hM; intro a b1 w hb1 hS hM
  refine vg hS <| va rfl ?_; clear hS; intro a hS
  refine s_nil <| k_seq <| c_seq <| c_region ?_
  refine vg hS <| vv (r_index0 · rfl (show ev _ _ = some (.int .i64 ((31 : Nat) : Int)) from rfl) Tryz.underlying27 sz5 (by decide)) <| vv (r_load · hM rfl (j := 0) rfl Tryz.underlying5 rfl (cells_get (by omega))) <| vv (r_bv · rfl (show ev _ _ = some (B 128#8) from rfl) gB (b_andNotB _ _ _)) <| vv (r_index0 · rfl (show ev _ _ = some (.int .i64 ((31 : Nat) : Int)) from rfl) Tryz.underlying27 sz5 (by decide)) ?_; clear hS; intro a hS
  refine s_storeB hS hM rfl rfl (j := 0) rfl sz5 (by omega) ?_; clear hS hM; intro a w hS hM
  refine s_nil <| k_seq <| c_seq ?_
  refine c_plan 6 (fun w => Mem w0 w _) [(1, _)] (by kernel_rfl) (by kernel_rfl) hS ⟨rfl, trivial⟩ (hM.drawn _) ?_; clear hS hM
  refine pv rfl (fun hS hM => r_loadAll hS hM rfl (j := 0) rfl Tryz.underlying27 rfl sz27 cells_len) ?_
  refine p_step rfl (fun a w hS hM => y_call (by kernel_rfl) hS rfl ((from_ok _ _).mem hM)) ?_
  refine p_step rfl (fun a w hS hM => y_call (by kernel_rfl) hS rfl ((bytes_ok _ (limb51_ok _) _).mem hM)) ?_
  refine pv rfl (fun hS hM => r_loadAll hS hM rfl (j := 0) rfl Tryz.underlying27 rfl sz27 cells_len) <| pv rfl (fun hS _ => r_eqlB hS rfl rfl (by kernel_rfl) Tryz.underlying27 Tryz.underlying5 sz5) <| pv rfl (fun hS _ => r_assign hS rfl) ?_
  refine p_nil rfl ?_; intro a w hS hM
  refine s_nil <| k_seq <| c_ret ?_
  exact k_res1 hS rfl (RV.tmp rfl) ⟨(congrArg (fun q => Ending.returned (.bool q)) (canon_eqR f)), hM.done ⟨hb1, trivial⟩⟩
end Go.Proofs.YtgmieahcpkcabaaGreat
