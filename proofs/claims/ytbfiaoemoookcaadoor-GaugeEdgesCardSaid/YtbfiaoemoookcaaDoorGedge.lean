/-
  The known values of chapter 30: noughts, ends, and what is no number. No program is in sight here.
-/
import Derived.Test.YtbfiaoemoookcaaDoorGrow
namespace Go.Sym
open Go Ieee

def mz : BitVec 64 := 9223372036854775808#64
def pinf : BitVec 64 := 9218868437227405312#64
def ninf : BitVec 64 := 18442240474082181120#64
def two : BitVec 64 := 4611686018427387904#64
def sel (x y : BitVec 64) (i : Nat) : BitVec 64 := if i = 0 then x else y
theorem q_zero : floatBits .quo .f64 (fi 0).toNat (fi 1).toNat = some (0#64).toNat := by decide +kernel
theorem q_minus : floatBits .quo .f64 (fi 0).toNat (fi (-1)).toNat = some mz.toNat := by decide +kernel
theorem q_inf : floatBits .quo .f64 (fi 1).toNat (fi 0).toNat = some pinf.toNat := by decide +kernel
theorem q_low : floatBits .quo .f64 (fi (-1)).toNat (fi 0).toNat = some ninf.toNat := by decide +kernel
theorem q_none : floatBits .quo .f64 (fi 0).toNat (fi 0).toNat = none := by decide +kernel
def third : BitVec 64 := 4599676419421066581#64
def thirds : BitVec 64 := 13827552055903212885#64
theorem q_third : floatBits .quo .f64 (fi 1).toNat (fi 3).toNat = some third.toNat := by decide +kernel
theorem q_thirds : floatBits .quo .f64 (fi (-2)).toNat (fi 3).toNat = some thirds.toNat := by decide +kernel
def s0 : List UInt8 := [48, 46, 48, 48, 48]
def sm0 : List UInt8 := [45, 48, 46, 48, 48, 48]
def sinf : List UInt8 := [105, 110, 102]
def sninf : List UInt8 := [45, 105, 110, 102]
def snan : List UInt8 := [110, 97, 110]
def s2 : List UInt8 := [50, 46, 48, 48, 48]
def s43 : List UInt8 := [56, 55, 57, 54, 48, 57, 51, 48, 50, 50, 50, 48, 56, 46, 48, 48, 48]
def sbig : List UInt8 := [98, 105, 103]
def snbig : List UInt8 := [45, 98, 105, 103]
def s3 : List UInt8 := [48, 46, 51, 51, 51]
def sm6 : List UInt8 := [45, 48, 46, 54, 54, 54]
theorem w_zero : shw 0#64 = s0 := by decide +kernel
theorem w_minus : shw mz = sm0 := by decide +kernel
theorem w_inf : shw pinf = sinf := by decide +kernel
theorem w_low : shw ninf = sninf := by decide +kernel
theorem w_two : shw two = s2 := by decide +kernel
theorem w_43 : shw 4800837202776948736#64 = s43 := by decide +kernel
theorem w_44 : shw 4805340802404319232#64 = sbig := by decide +kernel
theorem w_50 : shw 14055734437023318016#64 = snbig := by decide +kernel
theorem w_9 : shw 4561440258104740754#64 = s0 := by decide +kernel
theorem w_third : shw third = s3 := by decide +kernel
theorem w_thirds : shw thirds = sm6 := by decide +kernel
theorem w_least : shw (bs (sel mz 0#64) (-1) 2) = sm0 := by decide +kernel
theorem w_most : shw (bs (sel mz 0#64) 1 2) = s0 := by decide +kernel
theorem pinf_num : nanB pinf = false := by decide +kernel
theorem w_nan {x : BitVec 64} (h : nanB x = true) : shw x = snan := shw_nan h
theorem w_skip {x : BitVec 64} (h : nanB x = true) : shw (bs (sel x pinf) (-1) 2) = sinf := by
  have e0 : nanB (sel x pinf 0) = true := h
  have e1 : nanB (sel x pinf 1) = false := pinf_num
  have e : sel x pinf 1 = bs (sel x pinf) (-1) 2 := bs_take e1 (.inl (by rw [← bs_no e0]; exact nan0_nan))
  rw [← e]; exact w_inf
theorem add_inf : floatBits .add .f64 (0#64).toNat pinf.toNat = some pinf.toNat := by decide +kernel
theorem add_ends : floatBits .add .f64 pinf.toNat ninf.toNat = none := by decide +kernel
theorem add_mz : floatBits .add .f64 (0#64).toNat mz.toNat = some (0#64).toNat := by decide +kernel
theorem sel_ends : nanB (sel pinf ninf 0) = false ∧ nanB (sel pinf ninf 1) = false := by decide +kernel
theorem sel_mz : nanB (sel mz mz 0) = false ∧ nanB (sel mz mz 1) = false ∧ (numL (sel mz mz) 2).length = 2 := by decide +kernel
theorem sumR_two {f : Nat → BitVec 64} {s : BitVec 64} (h0 : nanB (f 0) = false) (h1 : nanB (f 1) = false) (h : sumR f 2 s) : ∃ p, FR .add 0#64 (f 0) p ∧ FR .add p (f 1) s := by
  unfold sumR at h
  rw [if_neg (by rw [h1]; decide)] at h
  obtain ⟨p, hp, hs⟩ := h
  unfold sumR at hp
  rw [if_neg (by rw [h0]; decide)] at hp
  obtain ⟨q, hq, hp⟩ := hp
  have : q = 0#64 := hq
  subst this
  exact ⟨p, hp, hs⟩
theorem mean_ends {v : Value} (h : meanR (sel pinf ninf) 2 v) : ∃ r, v = F r ∧ nanB r = true := by
  obtain ⟨s, r, e, h1, h2⟩ := h
  obtain ⟨p, hp, hs⟩ := sumR_two sel_ends.1 sel_ends.2 h1
  obtain rfl : p = pinf := hp.eq add_inf
  exact ⟨r, e, h2.of_none (bits_nan (.inl (hs.of_none add_ends)))⟩
theorem fi_two : floatBits .quo .f64 (0#64).toNat (fi ((2 : Nat) : Int)).toNat = some (0#64).toNat := by decide +kernel
theorem mean_mz {v : Value} (h : meanR (sel mz mz) 2 v) : v = F 0#64 := by
  obtain ⟨s, r, e, h1, h2⟩ := h
  obtain ⟨p, hp, hs⟩ := sumR_two sel_mz.1 sel_mz.2.1 h1
  obtain rfl : p = 0#64 := hp.eq add_mz
  obtain rfl : s = 0#64 := hs.eq add_mz
  rw [sel_mz.2.2] at h2
  obtain rfl : r = 0#64 := h2.eq fi_two
  exact e
theorem mean_no {f : Nat → BitVec 64} {v : Value} (h : meanR f 0 v) : ∃ r, v = F r ∧ nanB r = true := none_mean (fun i hi => by omega) h
theorem smooth_a {x y : BitVec 64} {v : Value} (hx : nanB x = true) (h : smooth x y v) : v = F y := by unfold smooth at h; rwa [if_pos hx] at h
theorem smooth_b {x y : BitVec 64} {v : Value} (hx : nanB x = false) (hy : nanB y = true) (h : smooth x y v) : v = F x := by unfold smooth at h; rwa [if_neg (by rw [hx]; decide), if_pos hy] at h
theorem two_num : nanB two = false := by decide +kernel
theorem sm_p : floatBits .sub .f64 (4621256167635550208#64).toNat (4607182418800017408#64).toNat = some (4620693217682128896#64).toNat := by decide +kernel
theorem sm_q : floatBits .quo .f64 (4620693217682128896#64).toNat (4620693217682128896#64).toNat = some (4607182418800017408#64).toNat := by decide +kernel
theorem sm_r : floatBits .add .f64 (4607182418800017408#64).toNat (4607182418800017408#64).toNat = some two.toNat := by decide +kernel
theorem sm_n : nanB 4607182418800017408#64 = false ∧ nanB 4621256167635550208#64 = false := by decide +kernel
theorem smooth_c {v : Value} (h : smooth 4607182418800017408#64 4621256167635550208#64 v) : v = F two := by
  unfold smooth at h
  rw [if_neg (by rw [sm_n.1]; decide), if_neg (by rw [sm_n.2]; decide)] at h
  obtain ⟨p, q, r, e, h1, h2, h3⟩ := h
  obtain rfl := h1.eq sm_p
  obtain rfl := h2.eq sm_q
  obtain rfl := h3.eq sm_r
  exact e
/-- What the twenty are shown as. -/
def wants : List (List UInt8) := [s0, sm0, sinf, sninf, snan, sm0, s0, sinf, snan, snan, s2, s2, s2, s43, sbig, snbig, s0, s0, s3, sm6]
section
variable {w w0 : World} {L : List Blk}
theorem row2F {b t : Nat} {x y : BitVec 64} (hM : Mem w0 w (⟨b, t, [F x, F y]⟩ :: L)) : Rd w (.slice (some ⟨b, 0, none⟩) 2 2) 2 (fun i => F (sel x y i)) :=
  (row2 hM).congr fun i _ => by unfold sel; split <;> rfl
theorem rd_strs {b t j : Nat} {l : List (List UInt8)} (hM : Mem w0 w L) (hj : L[j]? = some ⟨b, t, l.map SV⟩) : Rd w (.slice (some ⟨b, 0, none⟩) l.length l.length) l.length (fun i => SV (l.getD i [])) :=
  Rd.of_mem hM hj (Nat.le_refl _) (fun i hi => by rw [Nat.zero_add, List.getElem?_map, List.getElem?_eq_getElem hi, List.getD_eq_getElem?_getD, List.getElem?_eq_getElem hi]; rfl)
end
end Go.Sym
