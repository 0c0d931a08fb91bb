/- The walks through the laws of chapter 10. Printed by a program of mine (walk.py). -/
import Derived.Test.YtjnhgeoojnnfoaaPow2
import Derived.Test.YtjnhgeoojnnfoaaPow3
namespace Go.Proofs.Ytjnhgeoojnnfoaa
open Go Go.Sym
attribute [local irreducible] feAdd feMul feSub limb51 natB feCarry val dig byt r1X outX okX ratioX powG invX

theorem odd_f {x : Nat → BitVec 64} {n : Nat} (hx : Tw x n) (h : n % 2 = 0) (w0 : World) : Pure Try.prog 32 #[.agg (cU 5 x).toArray] w0 (.bool false) := by
  have := odd_ok x hx.1 w0
  rwa [decide_eq_false (by rw [hx.2.2, h]; decide)] at this
theorem iszero_e {x : Nat → BitVec 64} {n : Nat} (hx : Tw x n) (h : n = 0) (w0 : World) : Pure Try.prog 31 #[.agg (cU 5 x).toArray] w0 (.bool true) := by
  have := iszero_ok x hx.1 w0
  rwa [decide_eq_true (by rw [hx.2.2, h])] at this
theorem equal_y {x y : Nat → BitVec 64} {m n : Nat} (hx : Tw x m) (hy : Tw y n) (h : m = n) (w0 : World) : Pure Try.prog 17 #[.agg (cU 5 x).toArray, .agg (cU 5 y).toArray] w0 (.bool true) := by
  have := equal_ok x y hx.1 hy.1 w0
  rwa [decide_eq_true (tw_eqn hx hy h)] at this
theorem equal_n {x y : Nat → BitVec 64} {m n : Nat} (hx : Tw x m) (hy : Tw y n) (h : ¬ m = n) (w0 : World) : Pure Try.prog 17 #[.agg (cU 5 x).toArray, .agg (cU 5 y).toArray] w0 (.bool false) := by
  have := equal_ok x y hx.1 hy.1 w0
  rwa [decide_eq_false (tw_ne hx hy h)] at this



set_option maxRecDepth 100000 in
theorem alive10_ok  (w0 : World) : Pure Try.prog 36 #[] w0 (.bool true) := by
  refine ⟨by kernel_rfl, ?_⟩
  refine calls_sym Try.func36 rfl (by kernel_rfl) ?_
  intro a hS
  have hM : Mem w0 w0 [] := Mem.refl w0
  refine c_seq ?_
  refine c_region ?_
  refine s_val hS (by decide) rfl rfl (r_assign hS rfl) ?_; clear hS; intro a hS
  refine s_nil ?_
  refine k_seq ?_
  refine c_seq ?_
  refine c_region ?_
  refine s_pure hS hM (by decide) (vs := [U 4#64]) rfl (small_ok _ _) ?_; clear hS hM; intro a w hS hM
  refine s_pure hS hM (by decide) rfl (sqrt_ok _ (by first | exact limb51_ok _ | exact Tw.ok (by repeat first | assumption | exact Tw.read _ | exact Tw.small _ | exact Tw.zero | apply Tw.add | apply Tw.mul | apply Tw.neg | apply Tw.sub | apply Tw.r1 | apply Tw.inv | apply Tw.out | apply Tw.ratio1 | apply Tw.pow | exact Tw.self (by assumption))) _) ?_; clear hS hM; intro a w hS hM
  refine s_val hS (by decide) rfl rfl (r_move hS rfl) ?_; clear hS; intro a hS
  refine s_val hS (by decide) rfl rfl (r_extract hS rfl rfl) ?_; clear hS; intro a hS
  refine s_val hS (by decide) rfl rfl (r_extract hS rfl rfl) ?_; clear hS; intro a hS
  rw [four_ok] at hS
  refine s_alloc hS hM (by decide) zero27 ?_; clear hS hM; intro a b1 w hb1 hS hM
  refine s_storeAll hS hM rfl rfl (j := 0) rfl sz27 cells_len cells_len cU_one ?_; clear hS hM; intro a w hS hM
  refine s_val hS (by decide) rfl rfl (r_assign hS rfl) ?_; clear hS; intro a hS
  refine s_nil ?_
  refine k_seq ?_
  refine c_seq ?_
  refine c_plan 13 (fun w => Mem w0 w _) [(2, _), (1, _)] (by kernel_rfl) (by kernel_rfl) hS ⟨rfl, rfl, trivial⟩ (hM.drawn _) ?_; clear hS hM
  refine p_step rfl (fun a w hS hM => y_val rfl (r_move hS rfl)) ?_
  refine p_step rfl (fun a w hS hM => y_val rfl (r_move hS rfl)) ?_
  refine p_step rfl (fun a w hS hM => y_valg hS rfl rfl rfl rfl (r_loadAll hS hM rfl (j := 0) rfl Try.underlying27 rfl sz27 cells_len)) ?_
  refine p_step rfl (fun a w hS hM => y_callg (by kernel_rfl) hS (vs := [U 2#64]) rfl rfl rfl rfl ((small_ok _ _).mem hM)) ?_
  refine p_step rfl (fun a w hS hM => y_callg (by kernel_rfl) hS rfl rfl rfl rfl ((equal_y (by repeat first | assumption | exact Tw.read _ | exact Tw.small _ | exact Tw.zero | apply Tw.add | apply Tw.mul | apply Tw.neg | apply Tw.sub | apply Tw.r1 | apply Tw.inv | apply Tw.out | apply Tw.ratio1 | apply Tw.pow | exact Tw.self (by assumption)) (by repeat first | assumption | exact Tw.read _ | exact Tw.small _ | exact Tw.zero | apply Tw.add | apply Tw.mul | apply Tw.neg | apply Tw.sub | apply Tw.r1 | apply Tw.inv | apply Tw.out | apply Tw.ratio1 | apply Tw.pow | exact Tw.self (by assumption)) (by exact four_out) _).mem hM)) ?_
  refine p_step rfl (fun a w hS hM => y_val rfl (r_pick hS rfl rfl)) ?_
  refine p_step rfl (fun a w hS hM => y_val rfl (r_move hS rfl)) ?_
  refine p_step rfl (fun a w hS hM => y_callg (by kernel_rfl) hS (vs := [U 1#64]) rfl rfl rfl rfl ((small_ok _ _).mem hM)) ?_
  refine p_step rfl (fun a w hS hM => y_callg (by kernel_rfl) hS rfl rfl rfl rfl ((invert_ok _ _).mem hM)) ?_
  refine p_step rfl (fun a w hS hM => y_callg (by kernel_rfl) hS (vs := [U 1#64]) rfl rfl rfl rfl ((small_ok _ _).mem hM)) ?_
  refine p_step rfl (fun a w hS hM => y_callg (by kernel_rfl) hS rfl rfl rfl rfl ((equal_y (by repeat first | assumption | exact Tw.read _ | exact Tw.small _ | exact Tw.zero | apply Tw.add | apply Tw.mul | apply Tw.neg | apply Tw.sub | apply Tw.r1 | apply Tw.inv | apply Tw.out | apply Tw.ratio1 | apply Tw.pow | exact Tw.self (by assumption)) (by repeat first | assumption | exact Tw.read _ | exact Tw.small _ | exact Tw.zero | apply Tw.add | apply Tw.mul | apply Tw.neg | apply Tw.sub | apply Tw.r1 | apply Tw.inv | apply Tw.out | apply Tw.ratio1 | apply Tw.pow | exact Tw.self (by assumption)) (by exact one_inv) _).mem hM)) ?_
  refine p_step rfl (fun a w hS hM => y_val rfl (r_pick hS rfl rfl)) ?_
  refine p_step rfl (fun a w hS hM => y_val rfl (r_assign hS rfl)) ?_
  refine p_nil rfl ?_; intro a w hS hM
  refine s_nil ?_
  refine k_seq ?_
  refine c_ret ?_
  exact k_res1 hS rfl (RV.tmp rfl) ⟨rfl, hM.done ⟨hb1, trivial⟩⟩

set_option maxRecDepth 100000 in
theorem powersSums_ok (f : Nat → BitVec 8) (m n : BitVec 32) (w0 : World) : Pure Try.prog 9 #[.agg (cB 32 f).toArray, W m, W n] w0 (.bool true) := by
  refine ⟨by kernel_rfl, ?_⟩
  refine calls_sym Try.func9 rfl (by kernel_rfl) ?_
  intro a hS
  have hM : Mem w0 w0 [] := Mem.refl w0
  refine c_seq ?_
  refine c_region ?_
  refine s_box hS hM (by decide) rfl rfl ?_; clear hS hM; intro a b3 w hb3 hS hM
  refine s_val hS (by decide) rfl rfl (r_assign hS rfl) ?_; clear hS; intro a hS
  refine s_nil ?_
  refine k_seq ?_
  refine c_seq ?_
  refine c_region ?_
  refine s_pure hS hM (by decide) rfl (alive10_ok _) ?_; clear hS hM; intro a w hS hM
  refine s_val hS (by decide) rfl rfl (r_assign hS rfl) ?_; clear hS; intro a hS
  refine s_nil ?_
  refine k_seq ?_
  refine c_seq ?_
  refine c_region ?_
  refine s_val hS (by decide) rfl rfl (r_loadAll hS hM rfl (j := 0) rfl Try.underlying22 rfl sz22 cells_len) ?_; clear hS; intro a hS
  refine s_pure hS hM (by decide) rfl (from_ok _ _) ?_; clear hS hM; intro a w hS hM
  refine s_alloc hS hM (by decide) zero27 ?_; clear hS hM; intro a b8 w hb8 hS hM
  refine s_storeAll hS hM rfl rfl (j := 0) rfl sz27 cells_len cells_len cU_one ?_; clear hS hM; intro a w hS hM
  refine s_nil ?_
  refine k_seq ?_
  refine c_seq ?_
  refine c_region ?_
  refine s_val hS (by decide) rfl rfl (r_build hS rfl (cs := cB 32 (fun _ => 0)) (fun _ => by kernel_rfl)) ?_; clear hS; intro a hS
  refine s_alloc hS hM (by decide) zero22 ?_; clear hS hM; intro a b9 w hb9 hS hM
  refine s_storeAll hS hM rfl rfl (j := 0) rfl sz22 cells_len cells_len cB_one ?_; clear hS hM; intro a w hS hM
  refine s_nil ?_
  refine k_seq ?_
  refine c_seq ?_
  refine c_region ?_
  refine s_val hS (by decide) rfl rfl (r_build hS rfl (cs := cB 32 (fun _ => 0)) (fun _ => by kernel_rfl)) ?_; clear hS; intro a hS
  refine s_alloc hS hM (by decide) zero22 ?_; clear hS hM; intro a b10 w hb10 hS hM
  refine s_storeAll hS hM rfl rfl (j := 0) rfl sz22 cells_len cells_len cB_one ?_; clear hS hM; intro a w hS hM
  refine s_nil ?_
  refine k_seq ?_
  refine c_seq ?_
  refine c_region ?_
  refine s_val hS (by decide) rfl rfl (r_build hS rfl (cs := cB 32 (fun _ => 0)) (fun _ => by kernel_rfl)) ?_; clear hS; intro a hS
  refine s_alloc hS hM (by decide) zero22 ?_; clear hS hM; intro a b11 w hb11 hS hM
  refine s_storeAll hS hM rfl rfl (j := 0) rfl sz22 cells_len cells_len cB_one ?_; clear hS hM; intro a w hS hM
  refine s_nil ?_
  refine k_seq ?_
  refine c_seq ?_
  refine c_region ?_
  refine s_val hS (by decide) rfl rfl (r_build hS rfl (cs := cB 32 (fun _ => 0)) (fun _ => by kernel_rfl)) ?_; clear hS; intro a hS
  refine s_alloc hS hM (by decide) zero22 ?_; clear hS hM; intro a b12 w hb12 hS hM
  refine s_storeAll hS hM rfl rfl (j := 0) rfl sz22 cells_len cells_len cB_one ?_; clear hS hM; intro a w hS hM
  refine s_nil ?_
  refine k_seq ?_
  refine c_seq ?_
  refine c_region ?_
  refine s_val hS (by decide) rfl rfl (r_move hS rfl) ?_; clear hS; intro a hS
  refine s_val hS (by decide) rfl rfl (r_conv hS rfl (by kernel_rfl) Try.underlying24 (cv_WU _)) ?_; clear hS; intro a hS
  refine s_val hS (by decide) rfl rfl (r_move hS rfl) ?_; clear hS; intro a hS
  refine s_val hS (by decide) rfl rfl (r_conv hS rfl (by kernel_rfl) Try.underlying24 (cv_WU _)) ?_; clear hS; intro a hS
  refine s_val hS (by decide) rfl rfl (r_bv hS rfl rfl gU (b_addU _ _ _)) ?_; clear hS; intro a hS
  refine s_val hS (by decide) rfl rfl (r_assign hS rfl) ?_; clear hS; intro a hS
  refine s_nil ?_
  refine k_seq ?_
  refine c_seq ?_
  refine c_region ?_
  refine s_val hS (by decide) rfl rfl (r_move hS rfl) ?_; clear hS; intro a hS
  refine s_val hS (by decide) rfl rfl (r_conv hS rfl (by kernel_rfl) Try.underlying24 (cv_WU _)) ?_; clear hS; intro a hS
  refine s_val hS (by decide) rfl rfl (r_move hS rfl) ?_; clear hS; intro a hS
  refine s_val hS (by decide) rfl rfl (r_conv hS rfl (by kernel_rfl) Try.underlying24 (cv_WU _)) ?_; clear hS; intro a hS
  refine s_val hS (by decide) rfl rfl (r_bv hS rfl rfl gU (b_mulU _ _ _)) ?_; clear hS; intro a hS
  refine s_val hS (by decide) rfl rfl (r_assign hS rfl) ?_; clear hS; intro a hS
  refine s_nil ?_
  refine k_seq ?_
  refine c_seq ?_
  refine c_seq ?_
  refine c_region ?_
  refine s_val hS (by decide) rfl rfl (r_assign hS (show ev _ _ = some (N 0) from rfl)) ?_; clear hS; intro a hS
  refine s_nil ?_
  refine k_seq ?_
  refine c_block ?_
  refine c_loop (σ := Nat) (fun k a w => (k ≤ 8) ∧ Slots a 103 (env [(1, W m), (2, W n), (7, .bool true), (8, ptr b8 0), (9, ptr b9 0), (10, ptr b10 0), (11, ptr b11 0), (12, ptr b12 0), (13, U (m.setWidth 64 + n.setWidth 64)), (14, U (m.setWidth 64 * n.setWidth 64)), (15, N k)]) ∧ Mem w0 w ([⟨b12, 22, cB 32 (byt ((m.setWidth 64 * n.setWidth 64).toNat % 2 ^ (8 * k)))⟩, ⟨b11, 22, cB 32 (byt ((m.setWidth 64 + n.setWidth 64).toNat % 2 ^ (8 * k)))⟩, ⟨b10, 22, cB 32 (byt (n.toNat % 2 ^ (8 * k)))⟩, ⟨b9, 22, cB 32 (byt (m.toNat % 2 ^ (8 * k)))⟩, ⟨b8, 27, cU 5 (limb51 (natB f 32))⟩, ⟨b3, 22, cB 32 f⟩])) (fun k => 8 - k) (0) ⟨by omega, hS.to _ ⟨rfl, rfl, rfl, rfl, rfl, rfl, rfl, rfl, rfl, rfl, rfl, trivial⟩, (by simp only [byt_start]; exact hM)⟩ ?_
  clear hS hM; rintro k a w ⟨hk, hS, hM⟩
  refine c_seq ?_
  refine c_seq ?_
  refine c_region ?_
  refine s_val hS (by decide) rfl rfl (r_move hS rfl) ?_; clear hS; intro a hS
  refine s_val hS (by decide) rfl rfl (r_bv hS rfl (show ev _ _ = some (N 8) from rfl) gN (b_lssN _ _ _)) ?_; clear hS; intro a hS
  refine s_nil ?_
  refine k_seq ?_
  refine c_cond hS rfl (fun hc => ?_) (fun hc => ?_)
  · have hk1 := of_decide_eq_true hc
    refine c_skip ?_
    refine k_seq ?_
    refine c_seq ?_
    refine c_block ?_
    refine c_seq ?_
    refine c_seq ?_
    refine c_region ?_
    refine s_val hS (by decide) rfl rfl (r_move hS rfl) ?_; clear hS; intro a hS
    refine s_val hS (by decide) rfl rfl (r_bv hS rfl (show ev _ _ = some (N 4) from rfl) gN (b_lssN _ _ _)) ?_; clear hS; intro a hS
    refine s_nil ?_
    refine k_seq ?_
    refine c_cond hS rfl (fun hc => ?_) (fun hc => ?_)
    · have hk2 := of_decide_eq_true hc
      refine c_seq ?_
      refine c_region ?_
      refine s_val hS (by decide) rfl rfl (r_move hS rfl) ?_; clear hS; intro a hS
      refine s_val hS (by decide) rfl rfl (r_move hS rfl) ?_; clear hS; intro a hS
      refine s_val hS (by decide) rfl rfl (r_move hS rfl) ?_; clear hS; intro a hS
      refine s_val hS (by decide) rfl rfl (r_bv hS (show ev _ _ = some (N 8) from rfl) rfl gN (b_mulN _ _ _ (by omega))) ?_; clear hS; intro a hS
      refine s_val hS (by decide) rfl rfl (r_conv hS rfl (by kernel_rfl) Try.underlying50 (cv_NU _)) ?_; clear hS; intro a hS
      refine s_val hS (by decide) rfl rfl (r_bv hS rfl rfl gW (b_shrW _ _ _ (BitVec.toNat _))) ?_; clear hS; intro a hS
      refine s_val hS (by decide) rfl rfl (r_conv hS rfl (by kernel_rfl) Try.underlying5 (cv_WB _)) ?_; clear hS; intro a hS
      refine s_val hS (by decide) rfl rfl (r_index0 hS rfl rfl Try.underlying22 sz5 (by omega)) ?_; clear hS; intro a hS
      refine s_storeB hS hM rfl rfl (j := 3) rfl sz5 (by omega) ?_; clear hS hM; intro a w hS hM
      refine s_nil ?_
      refine k_seq ?_
      refine c_region ?_
      refine s_val hS (by decide) rfl rfl (r_move hS rfl) ?_; clear hS; intro a hS
      refine s_val hS (by decide) rfl rfl (r_move hS rfl) ?_; clear hS; intro a hS
      refine s_val hS (by decide) rfl rfl (r_move hS rfl) ?_; clear hS; intro a hS
      refine s_val hS (by decide) rfl rfl (r_bv hS (show ev _ _ = some (N 8) from rfl) rfl gN (b_mulN _ _ _ (by omega))) ?_; clear hS; intro a hS
      refine s_val hS (by decide) rfl rfl (r_conv hS rfl (by kernel_rfl) Try.underlying50 (cv_NU _)) ?_; clear hS; intro a hS
      refine s_val hS (by decide) rfl rfl (r_bv hS rfl rfl gW (b_shrW _ _ _ (BitVec.toNat _))) ?_; clear hS; intro a hS
      refine s_val hS (by decide) rfl rfl (r_conv hS rfl (by kernel_rfl) Try.underlying5 (cv_WB _)) ?_; clear hS; intro a hS
      refine s_val hS (by decide) rfl rfl (r_index0 hS rfl rfl Try.underlying22 sz5 (by omega)) ?_; clear hS; intro a hS
      refine s_storeB hS hM rfl rfl (j := 2) rfl sz5 (by omega) ?_; clear hS hM; intro a w hS hM
      refine s_nil ?_
      refine k_seq ?_
      refine c_seq ?_
      refine c_region ?_
      refine s_val hS (by decide) rfl rfl (r_move hS rfl) ?_; clear hS; intro a hS
      refine s_val hS (by decide) rfl rfl (r_move hS rfl) ?_; clear hS; intro a hS
      refine s_val hS (by decide) rfl rfl (r_move hS rfl) ?_; clear hS; intro a hS
      refine s_val hS (by decide) rfl rfl (r_bv hS (show ev _ _ = some (N 8) from rfl) rfl gN (b_mulN _ _ _ (by omega))) ?_; clear hS; intro a hS
      refine s_val hS (by decide) rfl rfl (r_conv hS rfl (by kernel_rfl) Try.underlying50 (cv_NU _)) ?_; clear hS; intro a hS
      refine s_val hS (by decide) rfl rfl (r_bv hS rfl rfl gU (b_shrU _ _ _ (BitVec.toNat _))) ?_; clear hS; intro a hS
      refine s_val hS (by decide) rfl rfl (r_conv hS rfl (by kernel_rfl) Try.underlying5 (cv_UB _)) ?_; clear hS; intro a hS
      refine s_val hS (by decide) rfl rfl (r_index0 hS rfl rfl Try.underlying22 sz5 (by omega)) ?_; clear hS; intro a hS
      refine s_storeB hS hM rfl rfl (j := 1) rfl sz5 (by omega) ?_; clear hS hM; intro a w hS hM
      refine s_nil ?_
      refine k_seq ?_
      refine c_region ?_
      refine s_val hS (by decide) rfl rfl (r_move hS rfl) ?_; clear hS; intro a hS
      refine s_val hS (by decide) rfl rfl (r_move hS rfl) ?_; clear hS; intro a hS
      refine s_val hS (by decide) rfl rfl (r_move hS rfl) ?_; clear hS; intro a hS
      refine s_val hS (by decide) rfl rfl (r_bv hS (show ev _ _ = some (N 8) from rfl) rfl gN (b_mulN _ _ _ (by omega))) ?_; clear hS; intro a hS
      refine s_val hS (by decide) rfl rfl (r_conv hS rfl (by kernel_rfl) Try.underlying50 (cv_NU _)) ?_; clear hS; intro a hS
      refine s_val hS (by decide) rfl rfl (r_bv hS rfl rfl gU (b_shrU _ _ _ (BitVec.toNat _))) ?_; clear hS; intro a hS
      refine s_val hS (by decide) rfl rfl (r_conv hS rfl (by kernel_rfl) Try.underlying5 (cv_UB _)) ?_; clear hS; intro a hS
      refine s_val hS (by decide) rfl rfl (r_index0 hS rfl rfl Try.underlying22 sz5 (by omega)) ?_; clear hS; intro a hS
      refine s_storeB hS hM rfl rfl (j := 0) rfl sz5 (by omega) ?_; clear hS hM; intro a w hS hM
      refine s_nil ?_
      refine k_in ?_
      refine k_seq ?_
      refine c_region ?_
      refine s_val hS (by decide) rfl rfl (r_move hS rfl) ?_; clear hS; intro a hS
      refine s_val hS (by decide) rfl rfl (r_bv hS rfl (show ev _ _ = some (N 1) from rfl) gN (b_addN _ _ _ (by omega))) ?_; clear hS; intro a hS
      refine s_val hS (by decide) rfl rfl (r_assign hS rfl) ?_; clear hS; intro a hS
      refine s_nil ?_
      refine k_then ?_
      refine ⟨k + 1, by omega, by omega, hS.to _ ⟨rfl, rfl, rfl, rfl, rfl, rfl, rfl, rfl, rfl, rfl, rfl, trivial⟩, (by first | exact hM.congr (by rw [shr_W m k hk1, shr_W n k hk1, shr_U _ k hk1, shr_U _ k hk1, byt_part, byt_part, byt_part, byt_part]; rfl) | exact hM.congr (by rw [shr_U _ k hk1, shr_U _ k hk1, byt_part, byt_part, part_all m.isLt (show 4 ≤ k by omega), part_all n.isLt (show 4 ≤ k by omega)]; rfl))⟩
    · have hk2 := of_decide_eq_false hc
      refine c_skip ?_
      refine k_seq ?_
      refine c_seq ?_
      refine c_region ?_
      refine s_val hS (by decide) rfl rfl (r_move hS rfl) ?_; clear hS; intro a hS
      refine s_val hS (by decide) rfl rfl (r_move hS rfl) ?_; clear hS; intro a hS
      refine s_val hS (by decide) rfl rfl (r_move hS rfl) ?_; clear hS; intro a hS
      refine s_val hS (by decide) rfl rfl (r_bv hS (show ev _ _ = some (N 8) from rfl) rfl gN (b_mulN _ _ _ (by omega))) ?_; clear hS; intro a hS
      refine s_val hS (by decide) rfl rfl (r_conv hS rfl (by kernel_rfl) Try.underlying50 (cv_NU _)) ?_; clear hS; intro a hS
      refine s_val hS (by decide) rfl rfl (r_bv hS rfl rfl gU (b_shrU _ _ _ (BitVec.toNat _))) ?_; clear hS; intro a hS
      refine s_val hS (by decide) rfl rfl (r_conv hS rfl (by kernel_rfl) Try.underlying5 (cv_UB _)) ?_; clear hS; intro a hS
      refine s_val hS (by decide) rfl rfl (r_index0 hS rfl rfl Try.underlying22 sz5 (by omega)) ?_; clear hS; intro a hS
      refine s_storeB hS hM rfl rfl (j := 1) rfl sz5 (by omega) ?_; clear hS hM; intro a w hS hM
      refine s_nil ?_
      refine k_seq ?_
      refine c_region ?_
      refine s_val hS (by decide) rfl rfl (r_move hS rfl) ?_; clear hS; intro a hS
      refine s_val hS (by decide) rfl rfl (r_move hS rfl) ?_; clear hS; intro a hS
      refine s_val hS (by decide) rfl rfl (r_move hS rfl) ?_; clear hS; intro a hS
      refine s_val hS (by decide) rfl rfl (r_bv hS (show ev _ _ = some (N 8) from rfl) rfl gN (b_mulN _ _ _ (by omega))) ?_; clear hS; intro a hS
      refine s_val hS (by decide) rfl rfl (r_conv hS rfl (by kernel_rfl) Try.underlying50 (cv_NU _)) ?_; clear hS; intro a hS
      refine s_val hS (by decide) rfl rfl (r_bv hS rfl rfl gU (b_shrU _ _ _ (BitVec.toNat _))) ?_; clear hS; intro a hS
      refine s_val hS (by decide) rfl rfl (r_conv hS rfl (by kernel_rfl) Try.underlying5 (cv_UB _)) ?_; clear hS; intro a hS
      refine s_val hS (by decide) rfl rfl (r_index0 hS rfl rfl Try.underlying22 sz5 (by omega)) ?_; clear hS; intro a hS
      refine s_storeB hS hM rfl rfl (j := 0) rfl sz5 (by omega) ?_; clear hS hM; intro a w hS hM
      refine s_nil ?_
      refine k_in ?_
      refine k_seq ?_
      refine c_region ?_
      refine s_val hS (by decide) rfl rfl (r_move hS rfl) ?_; clear hS; intro a hS
      refine s_val hS (by decide) rfl rfl (r_bv hS rfl (show ev _ _ = some (N 1) from rfl) gN (b_addN _ _ _ (by omega))) ?_; clear hS; intro a hS
      refine s_val hS (by decide) rfl rfl (r_assign hS rfl) ?_; clear hS; intro a hS
      refine s_nil ?_
      refine k_then ?_
      refine ⟨k + 1, by omega, by omega, hS.to _ ⟨rfl, rfl, rfl, rfl, rfl, rfl, rfl, rfl, rfl, rfl, rfl, trivial⟩, (by first | exact hM.congr (by rw [shr_W m k hk1, shr_W n k hk1, shr_U _ k hk1, shr_U _ k hk1, byt_part, byt_part, byt_part, byt_part]; rfl) | exact hM.congr (by rw [shr_U _ k hk1, shr_U _ k hk1, byt_part, byt_part, part_all m.isLt (show 4 ≤ k by omega), part_all n.isLt (show 4 ≤ k by omega)]; rfl))⟩
  · obtain rfl : k = 8 := by have := of_decide_eq_false hc; omega
    refine c_exit ?_
    refine k_thenx ?_
    refine k_thenx ?_
    refine k_inx ?_
    refine k_seq ?_
    refine c_seq ?_
    refine c_plan 33 (fun w => Mem w0 w _) [(7, _), (8, _), (9, _), (10, _), (11, _), (12, _)] (by kernel_rfl) (by kernel_rfl) hS ⟨rfl, rfl, rfl, rfl, rfl, rfl, trivial⟩ (hM.drawn _) ?_; clear hS hM
    refine p_step rfl (fun a w hS hM => y_val rfl (r_move hS rfl)) ?_
    refine p_step rfl (fun a w hS hM => y_val rfl (r_move hS rfl)) ?_
    refine p_step rfl (fun a w hS hM => y_valg hS rfl rfl rfl rfl (r_loadAll hS hM rfl (j := 4) rfl Try.underlying27 rfl sz27 cells_len)) ?_
    refine p_step rfl (fun a w hS hM => y_valg hS rfl rfl rfl rfl (r_loadAll hS hM rfl (j := 3) rfl Try.underlying22 rfl sz22 cells_len)) ?_
    refine p_step rfl (fun a w hS hM => y_callg (by kernel_rfl) hS rfl rfl rfl rfl ((pow_ok _ _ _).mem hM)) ?_
    refine p_step rfl (fun a w hS hM => y_valg hS rfl rfl rfl rfl (r_loadAll hS hM rfl (j := 4) rfl Try.underlying27 rfl sz27 cells_len)) ?_
    refine p_step rfl (fun a w hS hM => y_valg hS rfl rfl rfl rfl (r_loadAll hS hM rfl (j := 2) rfl Try.underlying22 rfl sz22 cells_len)) ?_
    refine p_step rfl (fun a w hS hM => y_callg (by kernel_rfl) hS rfl rfl rfl rfl ((pow_ok _ _ _).mem hM)) ?_
    refine p_step rfl (fun a w hS hM => y_callg (by kernel_rfl) hS rfl rfl rfl rfl ((mul_ok _ _ _).mem hM)) ?_
    refine p_step rfl (fun a w hS hM => y_valg hS rfl rfl rfl rfl (r_loadAll hS hM rfl (j := 4) rfl Try.underlying27 rfl sz27 cells_len)) ?_
    refine p_step rfl (fun a w hS hM => y_valg hS rfl rfl rfl rfl (r_loadAll hS hM rfl (j := 1) rfl Try.underlying22 rfl sz22 cells_len)) ?_
    refine p_step rfl (fun a w hS hM => y_callg (by kernel_rfl) hS rfl rfl rfl rfl ((pow_ok _ _ _).mem hM)) ?_
    refine p_step rfl (fun a w hS hM => y_callg (by kernel_rfl) hS rfl rfl rfl rfl ((equal_y (by repeat first | assumption | exact Tw.read _ | exact Tw.small _ | exact Tw.zero | apply Tw.add | apply Tw.mul | apply Tw.neg | apply Tw.sub | apply Tw.r1 | apply Tw.inv | apply Tw.out | apply Tw.ratio1 | apply Tw.pow | exact Tw.self (by assumption)) (by repeat first | assumption | exact Tw.read _ | exact Tw.small _ | exact Tw.zero | apply Tw.add | apply Tw.mul | apply Tw.neg | apply Tw.sub | apply Tw.r1 | apply Tw.inv | apply Tw.out | apply Tw.ratio1 | apply Tw.pow | exact Tw.self (by assumption)) (by exact sums1 _ _ _) _).mem hM)) ?_
    refine p_step rfl (fun a w hS hM => y_val rfl (r_pick hS rfl rfl)) ?_
    refine p_step rfl (fun a w hS hM => y_val rfl (r_move hS rfl)) ?_
    refine p_step rfl (fun a w hS hM => y_valg hS rfl rfl rfl rfl (r_loadAll hS hM rfl (j := 4) rfl Try.underlying27 rfl sz27 cells_len)) ?_
    refine p_step rfl (fun a w hS hM => y_valg hS rfl rfl rfl rfl (r_loadAll hS hM rfl (j := 3) rfl Try.underlying22 rfl sz22 cells_len)) ?_
    refine p_step rfl (fun a w hS hM => y_callg (by kernel_rfl) hS rfl rfl rfl rfl ((pow_ok _ _ _).mem hM)) ?_
    refine p_step rfl (fun a w hS hM => y_valg hS rfl rfl rfl rfl (r_loadAll hS hM rfl (j := 2) rfl Try.underlying22 rfl sz22 cells_len)) ?_
    refine p_step rfl (fun a w hS hM => y_callg (by kernel_rfl) hS rfl rfl rfl rfl ((pow_ok _ _ _).mem hM)) ?_
    refine p_step rfl (fun a w hS hM => y_valg hS rfl rfl rfl rfl (r_loadAll hS hM rfl (j := 4) rfl Try.underlying27 rfl sz27 cells_len)) ?_
    refine p_step rfl (fun a w hS hM => y_valg hS rfl rfl rfl rfl (r_loadAll hS hM rfl (j := 0) rfl Try.underlying22 rfl sz22 cells_len)) ?_
    refine p_step rfl (fun a w hS hM => y_callg (by kernel_rfl) hS rfl rfl rfl rfl ((pow_ok _ _ _).mem hM)) ?_
    refine p_step rfl (fun a w hS hM => y_callg (by kernel_rfl) hS rfl rfl rfl rfl ((equal_y (by repeat first | assumption | exact Tw.read _ | exact Tw.small _ | exact Tw.zero | apply Tw.add | apply Tw.mul | apply Tw.neg | apply Tw.sub | apply Tw.r1 | apply Tw.inv | apply Tw.out | apply Tw.ratio1 | apply Tw.pow | exact Tw.self (by assumption)) (by repeat first | assumption | exact Tw.read _ | exact Tw.small _ | exact Tw.zero | apply Tw.add | apply Tw.mul | apply Tw.neg | apply Tw.sub | apply Tw.r1 | apply Tw.inv | apply Tw.out | apply Tw.ratio1 | apply Tw.pow | exact Tw.self (by assumption)) (by exact sums2 _ _ _) _).mem hM)) ?_
    refine p_step rfl (fun a w hS hM => y_val rfl (r_pick hS rfl rfl)) ?_
    refine p_step rfl (fun a w hS hM => y_val rfl (r_move hS rfl)) ?_
    refine p_step rfl (fun a w hS hM => y_valg hS rfl rfl rfl rfl (r_loadAll hS hM rfl (j := 4) rfl Try.underlying27 rfl sz27 cells_len)) ?_
    refine p_step rfl (fun a w hS hM => y_valg hS rfl rfl rfl rfl (r_build hS rfl (cs := cB 32 (fun _ => 0)) (fun _ => by kernel_rfl))) ?_
    refine p_step rfl (fun a w hS hM => y_callg (by kernel_rfl) hS rfl rfl rfl rfl ((pow_ok _ _ _).mem hM)) ?_
    refine p_step rfl (fun a w hS hM => y_callg (by kernel_rfl) hS (vs := [U 1#64]) rfl rfl rfl rfl ((small_ok _ _).mem hM)) ?_
    refine p_step rfl (fun a w hS hM => y_callg (by kernel_rfl) hS rfl rfl rfl rfl ((equal_y (by repeat first | assumption | exact Tw.read _ | exact Tw.small _ | exact Tw.zero | apply Tw.add | apply Tw.mul | apply Tw.neg | apply Tw.sub | apply Tw.r1 | apply Tw.inv | apply Tw.out | apply Tw.ratio1 | apply Tw.pow | exact Tw.self (by assumption)) (by repeat first | assumption | exact Tw.read _ | exact Tw.small _ | exact Tw.zero | apply Tw.add | apply Tw.mul | apply Tw.neg | apply Tw.sub | apply Tw.r1 | apply Tw.inv | apply Tw.out | apply Tw.ratio1 | apply Tw.pow | exact Tw.self (by assumption)) (by exact sums3 _) _).mem hM)) ?_
    refine p_step rfl (fun a w hS hM => y_val rfl (r_pick hS rfl rfl)) ?_
    refine p_step rfl (fun a w hS hM => y_val rfl (r_assign hS rfl)) ?_
    refine p_nil rfl ?_; intro a w hS hM
    refine s_nil ?_
    refine k_seq ?_
    refine c_ret ?_
    exact k_res1 hS rfl (RV.tmp rfl) ⟨rfl, hM.done ⟨hb12, hb11, hb10, hb9, hb8, hb3, trivial⟩⟩

set_option maxRecDepth 100000 in
theorem powersInvert_ok (f g : Nat → BitVec 8) (w0 : World) : Pure Try.prog 10 #[.agg (cB 32 f).toArray, .agg (cB 32 g).toArray] w0 (.bool true) := by
  refine ⟨by kernel_rfl, ?_⟩
  refine calls_sym Try.func10 rfl (by kernel_rfl) ?_
  intro a hS
  have hM : Mem w0 w0 [] := Mem.refl w0
  refine c_seq ?_
  refine c_region ?_
  refine s_box hS hM (by decide) rfl rfl ?_; clear hS hM; intro a b2 w hb2 hS hM
  refine s_box hS hM (by decide) rfl rfl ?_; clear hS hM; intro a b3 w hb3 hS hM
  refine s_val hS (by decide) rfl rfl (r_assign hS rfl) ?_; clear hS; intro a hS
  refine s_nil ?_
  refine k_seq ?_
  refine c_seq ?_
  refine c_region ?_
  refine s_pure hS hM (by decide) rfl (alive10_ok _) ?_; clear hS hM; intro a w hS hM
  refine s_val hS (by decide) rfl rfl (r_assign hS rfl) ?_; clear hS; intro a hS
  refine s_nil ?_
  refine k_seq ?_
  refine c_seq ?_
  refine c_region ?_
  refine s_val hS (by decide) rfl rfl (r_loadAll hS hM rfl (j := 1) rfl Try.underlying22 rfl sz22 cells_len) ?_; clear hS; intro a hS
  refine s_pure hS hM (by decide) rfl (from_ok _ _) ?_; clear hS hM; intro a w hS hM
  refine s_alloc hS hM (by decide) zero27 ?_; clear hS hM; intro a b6 w hb6 hS hM
  refine s_storeAll hS hM rfl rfl (j := 0) rfl sz27 cells_len cells_len cU_one ?_; clear hS hM; intro a w hS hM
  refine s_nil ?_
  refine k_seq ?_
  refine c_seq ?_
  refine c_region ?_
  refine s_val hS (by decide) rfl rfl (r_loadAll hS hM rfl (j := 1) rfl Try.underlying22 rfl sz22 cells_len) ?_; clear hS; intro a hS
  refine s_pure hS hM (by decide) rfl (from_ok _ _) ?_; clear hS hM; intro a w hS hM
  refine s_alloc hS hM (by decide) zero27 ?_; clear hS hM; intro a b7 w hb7 hS hM
  refine s_storeAll hS hM rfl rfl (j := 0) rfl sz27 cells_len cells_len cU_one ?_; clear hS hM; intro a w hS hM
  refine s_nil ?_
  refine k_seq ?_
  refine c_seq ?_
  refine c_region ?_
  refine s_val hS (by decide) rfl rfl (r_loadAll hS hM rfl (j := 1) rfl Try.underlying27 rfl sz27 cells_len) ?_; clear hS; intro a hS
  refine s_pure hS hM (by decide) rfl (invert_ok _ _) ?_; clear hS hM; intro a w hS hM
  refine s_alloc hS hM (by decide) zero27 ?_; clear hS hM; intro a b8 w hb8 hS hM
  refine s_storeAll hS hM rfl rfl (j := 0) rfl sz27 cells_len cells_len cU_one ?_; clear hS hM; intro a w hS hM
  refine s_nil ?_
  refine k_seq ?_
  refine c_seq ?_
  refine c_seq ?_
  refine c_region ?_
  refine s_val hS (by decide) rfl rfl (r_move hS rfl) ?_; clear hS; intro a hS
  refine s_val hS (by decide) rfl rfl (r_not hS rfl) ?_; clear hS; intro a hS
  refine s_val hS (by decide) rfl rfl (r_move hS rfl) ?_; clear hS; intro a hS
  refine s_valg hS (by decide) rfl rfl rfl rfl rfl (r_loadAll hS hM rfl (j := 2) rfl Try.underlying27 rfl sz27 cells_len) ?_; clear hS; intro a hS
  refine s_pureg hS hM (by decide) rfl rfl rfl rfl (iszero_ok _ (by first | exact limb51_ok _ | exact Tw.ok (by repeat first | assumption | exact Tw.read _ | exact Tw.small _ | exact Tw.zero | apply Tw.add | apply Tw.mul | apply Tw.neg | apply Tw.sub | apply Tw.r1 | apply Tw.inv | apply Tw.out | apply Tw.ratio1 | apply Tw.pow | exact Tw.self (by assumption))) _) ?_; clear hS hM; intro a w hS hM
  refine s_val hS (by decide) rfl rfl (r_pick hS rfl rfl) ?_; clear hS; intro a hS
  refine s_nil ?_
  refine k_seq ?_
  refine c_cond hS rfl (fun hc => ?_) (fun hc => ?_)
  · have h09 : val (limb51 (natB f 32)) % pP = 0 := (by simpa using hc); have h0 : (natB f 32 % 2 ^ 255 % pP) = 0 := (by have h9 := h09; rwa [(Tw.read f).eq] at h9)
    refine c_seq ?_
    refine c_region ?_
    refine s_val hS (by decide) rfl rfl (r_move hS rfl) ?_; clear hS; intro a hS
    refine s_val hS (by decide) rfl rfl (r_move hS rfl) ?_; clear hS; intro a hS
    refine s_valg hS (by decide) rfl rfl rfl rfl rfl (r_loadAll hS hM rfl (j := 0) rfl Try.underlying27 rfl sz27 cells_len) ?_; clear hS; intro a hS
    refine s_pureg hS hM (by decide) rfl rfl rfl rfl (iszero_e (by repeat first | assumption | exact Tw.read _ | exact Tw.small _ | exact Tw.zero | apply Tw.add | apply Tw.mul | apply Tw.neg | apply Tw.sub | apply Tw.r1 | apply Tw.inv | apply Tw.out | apply Tw.ratio1 | apply Tw.pow | exact Tw.self (by assumption)) (by rw [h0]; exact inv_zero) _) ?_; clear hS hM; intro a w hS hM
    refine s_val hS (by decide) rfl rfl (r_pick hS rfl rfl) ?_; clear hS; intro a hS
    refine s_val hS (by decide) rfl rfl (r_assign hS rfl) ?_; clear hS; intro a hS
    refine s_nil ?_
    refine k_seq ?_
    refine c_ret ?_
    refine k_thenr ?_
    exact k_res1 hS rfl (RV.tmp rfl) ⟨rfl, hM.done ⟨hb8, hb7, hb6, hb3, hb2, trivial⟩⟩
  · have h09 : ¬ val (limb51 (natB f 32)) % pP = 0 := (by simpa using hc); have h0 : ¬ (natB f 32 % 2 ^ 255 % pP) = 0 := (by have h9 := h09; rwa [(Tw.read f).eq] at h9); have h0p : 0 < (natB f 32 % 2 ^ 255 % pP) := Nat.pos_of_ne_zero h0
    refine c_skip ?_
    refine k_seq ?_
    refine c_seq ?_
    refine c_plan 23 (fun w => Mem w0 w _) [(6, _), (8, _), (7, _)] (by kernel_rfl) (by kernel_rfl) hS ⟨rfl, rfl, rfl, trivial⟩ (hM.drawn _) ?_; clear hS hM
    refine p_step rfl (fun a w hS hM => y_val rfl (r_loadAll hS hM rfl (j := 2) rfl Try.underlying27 rfl sz27 cells_len)) ?_
    refine p_step rfl (fun a w hS hM => y_val rfl (r_loadAll hS hM rfl (j := 0) rfl Try.underlying27 rfl sz27 cells_len)) ?_
    refine p_step rfl (fun a w hS hM => y_call (by kernel_rfl) hS rfl ((mul_ok _ _ _).mem hM)) ?_
    refine p_step rfl (fun a w hS hM => y_call (by kernel_rfl) hS (vs := [U 1#64]) rfl ((small_ok _ _).mem hM)) ?_
    refine p_step rfl (fun a w hS hM => y_call (by kernel_rfl) hS rfl ((equal_y (by repeat first | assumption | exact Tw.read _ | exact Tw.small _ | exact Tw.zero | apply Tw.add | apply Tw.mul | apply Tw.neg | apply Tw.sub | apply Tw.r1 | apply Tw.inv | apply Tw.out | apply Tw.ratio1 | apply Tw.pow | exact Tw.self (by assumption)) (by repeat first | assumption | exact Tw.read _ | exact Tw.small _ | exact Tw.zero | apply Tw.add | apply Tw.mul | apply Tw.neg | apply Tw.sub | apply Tw.r1 | apply Tw.inv | apply Tw.out | apply Tw.ratio1 | apply Tw.pow | exact Tw.self (by assumption)) (by exact inv_mul h0p (Nat.mod_lt _ pP_pos)) _).mem hM)) ?_
    refine p_step rfl (fun a w hS hM => y_val rfl (r_move hS rfl)) ?_
    refine p_step rfl (fun a w hS hM => y_valg hS rfl rfl rfl rfl (r_loadAll hS hM rfl (j := 0) rfl Try.underlying27 rfl sz27 cells_len)) ?_
    refine p_step rfl (fun a w hS hM => y_callg (by kernel_rfl) hS rfl rfl rfl rfl ((invert_ok _ _).mem hM)) ?_
    refine p_step rfl (fun a w hS hM => y_valg hS rfl rfl rfl rfl (r_loadAll hS hM rfl (j := 2) rfl Try.underlying27 rfl sz27 cells_len)) ?_
    refine p_step rfl (fun a w hS hM => y_callg (by kernel_rfl) hS rfl rfl rfl rfl ((equal_y (by repeat first | assumption | exact Tw.read _ | exact Tw.small _ | exact Tw.zero | apply Tw.add | apply Tw.mul | apply Tw.neg | apply Tw.sub | apply Tw.r1 | apply Tw.inv | apply Tw.out | apply Tw.ratio1 | apply Tw.pow | exact Tw.self (by assumption)) (by repeat first | assumption | exact Tw.read _ | exact Tw.small _ | exact Tw.zero | apply Tw.add | apply Tw.mul | apply Tw.neg | apply Tw.sub | apply Tw.r1 | apply Tw.inv | apply Tw.out | apply Tw.ratio1 | apply Tw.pow | exact Tw.self (by assumption)) (by exact inv_inv (Nat.mod_lt _ pP_pos)) _).mem hM)) ?_
    refine p_step rfl (fun a w hS hM => y_val rfl (r_pick hS rfl rfl)) ?_
    refine p_step rfl (fun a w hS hM => y_val rfl (r_move hS rfl)) ?_
    refine p_step rfl (fun a w hS hM => y_valg hS rfl rfl rfl rfl (r_loadAll hS hM rfl (j := 2) rfl Try.underlying27 rfl sz27 cells_len)) ?_
    refine p_step rfl (fun a w hS hM => y_valg hS rfl rfl rfl rfl (r_loadAll hS hM rfl (j := 1) rfl Try.underlying27 rfl sz27 cells_len)) ?_
    refine p_step rfl (fun a w hS hM => y_callg (by kernel_rfl) hS rfl rfl rfl rfl ((mul_ok _ _ _).mem hM)) ?_
    refine p_step rfl (fun a w hS hM => y_callg (by kernel_rfl) hS rfl rfl rfl rfl ((invert_ok _ _).mem hM)) ?_
    refine p_step rfl (fun a w hS hM => y_valg hS rfl rfl rfl rfl (r_loadAll hS hM rfl (j := 0) rfl Try.underlying27 rfl sz27 cells_len)) ?_
    refine p_step rfl (fun a w hS hM => y_valg hS rfl rfl rfl rfl (r_loadAll hS hM rfl (j := 1) rfl Try.underlying27 rfl sz27 cells_len)) ?_
    refine p_step rfl (fun a w hS hM => y_callg (by kernel_rfl) hS rfl rfl rfl rfl ((invert_ok _ _).mem hM)) ?_
    refine p_step rfl (fun a w hS hM => y_callg (by kernel_rfl) hS rfl rfl rfl rfl ((mul_ok _ _ _).mem hM)) ?_
    refine p_step rfl (fun a w hS hM => y_callg (by kernel_rfl) hS rfl rfl rfl rfl ((equal_y (by repeat first | assumption | exact Tw.read _ | exact Tw.small _ | exact Tw.zero | apply Tw.add | apply Tw.mul | apply Tw.neg | apply Tw.sub | apply Tw.r1 | apply Tw.inv | apply Tw.out | apply Tw.ratio1 | apply Tw.pow | exact Tw.self (by assumption)) (by repeat first | assumption | exact Tw.read _ | exact Tw.small _ | exact Tw.zero | apply Tw.add | apply Tw.mul | apply Tw.neg | apply Tw.sub | apply Tw.r1 | apply Tw.inv | apply Tw.out | apply Tw.ratio1 | apply Tw.pow | exact Tw.self (by assumption)) (by exact inv_prod _ _) _).mem hM)) ?_
    refine p_step rfl (fun a w hS hM => y_val rfl (r_pick hS rfl rfl)) ?_
    refine p_step rfl (fun a w hS hM => y_val rfl (r_assign hS rfl)) ?_
    refine p_nil rfl ?_; intro a w hS hM
    refine s_nil ?_
    refine k_seq ?_
    refine c_ret ?_
    exact k_res1 hS rfl (RV.tmp rfl) ⟨rfl, hM.done ⟨hb8, hb7, hb6, hb3, hb2, trivial⟩⟩

set_option maxRecDepth 100000 in
theorem powersSqrt_ok (f : Nat → BitVec 8) (w0 : World) : Pure Try.prog 11 #[.agg (cB 32 f).toArray] w0 (.bool true) := by
  refine ⟨by kernel_rfl, ?_⟩
  refine calls_sym Try.func11 rfl (by kernel_rfl) ?_
  intro a hS
  have hM : Mem w0 w0 [] := Mem.refl w0
  refine c_seq ?_
  refine c_region ?_
  refine s_box hS hM (by decide) rfl rfl ?_; clear hS hM; intro a b1 w hb1 hS hM
  refine s_val hS (by decide) rfl rfl (r_assign hS rfl) ?_; clear hS; intro a hS
  refine s_nil ?_
  refine k_seq ?_
  refine c_seq ?_
  refine c_region ?_
  refine s_pure hS hM (by decide) rfl (alive10_ok _) ?_; clear hS hM; intro a w hS hM
  refine s_val hS (by decide) rfl rfl (r_assign hS rfl) ?_; clear hS; intro a hS
  refine s_nil ?_
  refine k_seq ?_
  refine c_seq ?_
  refine c_region ?_
  refine s_val hS (by decide) rfl rfl (r_loadAll hS hM rfl (j := 0) rfl Try.underlying22 rfl sz22 cells_len) ?_; clear hS; intro a hS
  refine s_pure hS hM (by decide) rfl (from_ok _ _) ?_; clear hS hM; intro a w hS hM
  refine s_alloc hS hM (by decide) zero27 ?_; clear hS hM; intro a b4 w hb4 hS hM
  refine s_storeAll hS hM rfl rfl (j := 0) rfl sz27 cells_len cells_len cU_one ?_; clear hS hM; intro a w hS hM
  refine s_nil ?_
  refine k_seq ?_
  refine c_seq ?_
  refine c_region ?_
  refine s_val hS (by decide) rfl rfl (r_loadAll hS hM rfl (j := 0) rfl Try.underlying27 rfl sz27 cells_len) ?_; clear hS; intro a hS
  refine s_pure hS hM (by decide) rfl (square_ok _ _) ?_; clear hS hM; intro a w hS hM
  refine s_alloc hS hM (by decide) zero27 ?_; clear hS hM; intro a b5 w hb5 hS hM
  refine s_storeAll hS hM rfl rfl (j := 0) rfl sz27 cells_len cells_len cU_one ?_; clear hS hM; intro a w hS hM
  refine s_nil ?_
  refine k_seq ?_
  refine c_seq ?_
  refine c_region ?_
  refine s_val hS (by decide) rfl rfl (r_loadAll hS hM rfl (j := 0) rfl Try.underlying27 rfl sz27 cells_len) ?_; clear hS; intro a hS
  refine s_pure hS hM (by decide) rfl (sqrt_ok _ (by first | exact limb51_ok _ | exact Tw.ok (by repeat first | assumption | exact Tw.read _ | exact Tw.small _ | exact Tw.zero | apply Tw.add | apply Tw.mul | apply Tw.neg | apply Tw.sub | apply Tw.r1 | apply Tw.inv | apply Tw.out | apply Tw.ratio1 | apply Tw.pow | exact Tw.self (by assumption))) _) ?_; clear hS hM; intro a w hS hM
  refine s_val hS (by decide) rfl rfl (r_move hS rfl) ?_; clear hS; intro a hS
  refine s_val hS (by decide) rfl rfl (r_extract hS rfl rfl) ?_; clear hS; intro a hS
  refine s_val hS (by decide) rfl rfl (r_extract hS rfl rfl) ?_; clear hS; intro a hS
  rw [(Tw.okk ((Tw.read f).mul (Tw.read f))).trans (okN_square (Nat.mod_lt _ pP_pos))] at hS
  refine s_alloc hS hM (by decide) zero27 ?_; clear hS hM; intro a b6 w hb6 hS hM
  refine s_storeAll hS hM rfl rfl (j := 0) rfl sz27 cells_len cells_len cU_one ?_; clear hS hM; intro a w hS hM
  refine s_val hS (by decide) rfl rfl (r_assign hS rfl) ?_; clear hS; intro a hS
  refine s_nil ?_
  refine k_seq ?_
  refine c_seq ?_
  refine c_seq ?_
  by_cases hA : outN ((natB f 32 % 2 ^ 255 % pP) * (natB f 32 % 2 ^ 255 % pP) % pP) = (natB f 32 % 2 ^ 255 % pP)
  · skip
    refine c_plan 30 (fun w => Mem w0 w _) [(3, _), (7, _), (6, _), (5, _), (4, _), (2, _)] (by kernel_rfl) (by kernel_rfl) hS ⟨rfl, rfl, rfl, rfl, rfl, rfl, trivial⟩ (hM.drawn _) ?_; clear hS hM
    refine p_step rfl (fun a w hS hM => y_val rfl (r_move hS rfl)) ?_
    refine p_step rfl (fun a w hS hM => y_val rfl (r_not hS rfl)) ?_
    refine p_step rfl (fun a w hS hM => y_val rfl (r_move hS rfl)) ?_
    refine p_step rfl (fun a w hS hM => y_valg hS rfl rfl rfl rfl (r_move hS rfl)) ?_
    refine p_step rfl (fun a w hS hM => y_valg hS rfl rfl rfl rfl (r_not hS rfl)) ?_
    refine p_step rfl (fun a w hS hM => y_val rfl (r_pick hS rfl rfl)) ?_
    refine p_step rfl (fun a w hS hM => y_val rfl (r_move hS rfl)) ?_
    refine p_step rfl (fun a w hS hM => y_valg hS rfl rfl rfl rfl (r_loadAll hS hM rfl (j := 0) rfl Try.underlying27 rfl sz27 cells_len)) ?_
    refine p_step rfl (fun a w hS hM => y_callg (by kernel_rfl) hS rfl rfl rfl rfl ((odd_f (by repeat first | assumption | exact Tw.read _ | exact Tw.small _ | exact Tw.zero | apply Tw.add | apply Tw.mul | apply Tw.neg | apply Tw.sub | apply Tw.r1 | apply Tw.inv | apply Tw.out | apply Tw.ratio1 | apply Tw.pow | exact Tw.self (by assumption)) (by exact outN_even2 _) _).mem hM)) ?_
    refine p_step rfl (fun a w hS hM => y_val rfl (r_pick hS rfl rfl)) ?_
    refine p_step rfl (fun a w hS hM => y_val rfl (r_move hS rfl)) ?_
    refine p_step rfl (fun a w hS hM => y_valg hS rfl rfl rfl rfl (r_loadAll hS hM rfl (j := 0) rfl Try.underlying27 rfl sz27 cells_len)) ?_
    refine p_step rfl (fun a w hS hM => y_callg (by kernel_rfl) hS rfl rfl rfl rfl ((square_ok _ _).mem hM)) ?_
    refine p_step rfl (fun a w hS hM => y_valg hS rfl rfl rfl rfl (r_loadAll hS hM rfl (j := 1) rfl Try.underlying27 rfl sz27 cells_len)) ?_
    refine p_step rfl (fun a w hS hM => y_callg (by kernel_rfl) hS rfl rfl rfl rfl ((equal_y (by repeat first | assumption | exact Tw.read _ | exact Tw.small _ | exact Tw.zero | apply Tw.add | apply Tw.mul | apply Tw.neg | apply Tw.sub | apply Tw.r1 | apply Tw.inv | apply Tw.out | apply Tw.ratio1 | apply Tw.pow | exact Tw.self (by assumption)) (by repeat first | assumption | exact Tw.read _ | exact Tw.small _ | exact Tw.zero | apply Tw.add | apply Tw.mul | apply Tw.neg | apply Tw.sub | apply Tw.r1 | apply Tw.inv | apply Tw.out | apply Tw.ratio1 | apply Tw.pow | exact Tw.self (by assumption)) (by exact (okN_out (okN_square (Nat.mod_lt _ pP_pos))).1) _).mem hM)) ?_
    refine p_step rfl (fun a w hS hM => y_valg hS rfl rfl rfl rfl (r_not hS rfl)) ?_
    refine p_step rfl (fun a w hS hM => y_val rfl (r_pick hS rfl rfl)) ?_
    refine p_step rfl (fun a w hS hM => y_val rfl (r_move hS rfl)) ?_
    refine p_step rfl (fun a w hS hM => y_valg hS rfl rfl rfl rfl (r_loadAll hS hM rfl (j := 0) rfl Try.underlying27 rfl sz27 cells_len)) ?_
    refine p_step rfl (fun a w hS hM => y_valg hS rfl rfl rfl rfl (r_loadAll hS hM rfl (j := 2) rfl Try.underlying27 rfl sz27 cells_len)) ?_
    refine p_step rfl (fun a w hS hM => y_callg (by kernel_rfl) hS rfl rfl rfl rfl ((equal_y (by repeat first | assumption | exact Tw.read _ | exact Tw.small _ | exact Tw.zero | apply Tw.add | apply Tw.mul | apply Tw.neg | apply Tw.sub | apply Tw.r1 | apply Tw.inv | apply Tw.out | apply Tw.ratio1 | apply Tw.pow | exact Tw.self (by assumption)) (by repeat first | assumption | exact Tw.read _ | exact Tw.small _ | exact Tw.zero | apply Tw.add | apply Tw.mul | apply Tw.neg | apply Tw.sub | apply Tw.r1 | apply Tw.inv | apply Tw.out | apply Tw.ratio1 | apply Tw.pow | exact Tw.self (by assumption)) (by exact hA) _).mem hM)) ?_
    refine p_step rfl (fun a w hS hM => y_valg hS rfl rfl rfl rfl (r_not hS rfl)) ?_
    refine p_step rfl (fun a w hS hM => y_valg hS rfl rfl rfl rfl (r_move hS rfl)) ?_
    refine p_step rfl (fun a w hS hM => y_skip hS rfl rfl rfl rfl) ?_
    refine p_step rfl (fun a w hS hM => y_skip hS rfl rfl rfl rfl) ?_
    refine p_step rfl (fun a w hS hM => y_skip hS rfl rfl rfl rfl) ?_
    refine p_step rfl (fun a w hS hM => y_skip hS rfl rfl rfl rfl) ?_
    refine p_step rfl (fun a w hS hM => y_skip hS rfl rfl rfl rfl) ?_
    refine p_step rfl (fun a w hS hM => y_valg hS rfl rfl rfl rfl (r_pick hS rfl rfl)) ?_
    refine p_step rfl (fun a w hS hM => y_val rfl (r_pick hS rfl rfl)) ?_
    refine p_nil rfl ?_; intro a w hS hM
    refine s_nil ?_
    refine k_seq ?_
    refine c_false hS rfl rfl ?_
    refine c_skip ?_
    refine k_seq ?_
    refine c_seq ?_
    refine c_region ?_
    refine s_val hS (by decide) rfl rfl (r_loadAll hS hM rfl (j := 2) rfl Try.underlying27 rfl sz27 cells_len) ?_; clear hS; intro a hS
    refine s_pure hS hM (by decide) rfl (sqrt_ok _ (by first | exact limb51_ok _ | exact Tw.ok (by repeat first | assumption | exact Tw.read _ | exact Tw.small _ | exact Tw.zero | apply Tw.add | apply Tw.mul | apply Tw.neg | apply Tw.sub | apply Tw.r1 | apply Tw.inv | apply Tw.out | apply Tw.ratio1 | apply Tw.pow | exact Tw.self (by assumption))) _) ?_; clear hS hM; intro a w hS hM
    refine s_val hS (by decide) rfl rfl (r_move hS rfl) ?_; clear hS; intro a hS
    refine s_val hS (by decide) rfl rfl (r_extract hS rfl rfl) ?_; clear hS; intro a hS
    refine s_val hS (by decide) rfl rfl (r_extract hS rfl rfl) ?_; clear hS; intro a hS
    refine s_alloc hS hM (by decide) zero27 ?_; clear hS hM; intro a b8 w hb8 hS hM
    refine s_storeAll hS hM rfl rfl (j := 0) rfl sz27 cells_len cells_len cU_one ?_; clear hS hM; intro a w hS hM
    refine s_val hS (by decide) rfl rfl (r_assign hS rfl) ?_; clear hS; intro a hS
    refine s_nil ?_
    refine k_seq ?_
    refine c_seq ?_
    refine c_vplan 9 (AL w0 7 8 27 (cU 5 (fun _ => 0)) (cU 5 (outX (feMul (limb51 (2#64).toNat) (limb51 (natB f 32))))) [⟨b8, 27, cU 5 (outX (limb51 (natB f 32)))⟩, ⟨b6, 27, cU 5 (outX (feMul (limb51 (natB f 32)) (limb51 (natB f 32))))⟩, ⟨b5, 27, cU 5 (feMul (limb51 (natB f 32)) (limb51 (natB f 32)))⟩, ⟨b4, 27, cU 5 (limb51 (natB f 32))⟩, ⟨b1, 22, cB 32 f⟩]) [(4, ptr b4 0), (8, ptr b8 0), (9, .bool (okX (limb51 (natB f 32))))] (fun i V => match i with | 0 => V 0 = .agg (cU 5 (limb51 (2#64).toNat)).toArray | 1 => V 1 = .agg (cU 5 (limb51 (natB f 32))).toArray | 2 => V 2 = .agg (cU 5 (feMul (limb51 (2#64).toNat) (limb51 (natB f 32)))).toArray | 3 => V 3 = .tuple #[.agg (cU 5 (outX (feMul (limb51 (2#64).toNat) (limb51 (natB f 32))))).toArray, .bool (okX (feMul (limb51 (2#64).toNat) (limb51 (natB f 32))))] | 4 => V 4 = .tuple #[.agg (cU 5 (outX (feMul (limb51 (2#64).toNat) (limb51 (natB f 32))))).toArray, .bool (okX (feMul (limb51 (2#64).toNat) (limb51 (natB f 32))))] | 5 => V 5 = .agg (cU 5 (outX (feMul (limb51 (2#64).toNat) (limb51 (natB f 32))))).toArray | 6 => V 6 = .bool (okX (feMul (limb51 (2#64).toNat) (limb51 (natB f 32)))) | 7 => ∃ b, w0.heap.size ≤ b ∧ V 7 = ptr b 0 | _ => True) (by kernel_rfl) (by kernel_rfl) hS ⟨rfl, rfl, rfl, trivial⟩ (AL.start (hM.drawn _)) ?_ ?_
    · clear hS hM
      refine ⟨?_, ?_, ?_, ?_, ?_, ?_, ?_, ?_, ?_, trivial⟩
      · intro S V a w hp hs hi hR hS hM
        replace hS := hS.to [] trivial
        have hM0 := hM; replace hM := hM0.low
        exact vy_pureA hS (vs := [U 2#64]) rfl (small_ok _ _) fun w' hm => ⟨rfl, (hM0.after hm).keep rfl rfl⟩
      · intro S V a w hp hs hi hR hS hM
        replace hS := hS.to [(4, ptr b4 0)] ⟨rfl, trivial⟩
        have hM0 := hM; replace hM := hM0.low
        exact vy_val rfl (r_loadAll hS hM rfl (j := 3) rfl Try.underlying27 rfl sz27 cells_len) ⟨rfl, hM0.keep rfl rfl⟩
      · intro S V a w hp hs hi hR hS hM
        have h0 : V 0 = .agg (cU 5 (limb51 (2#64).toNat)).toArray := hR 0 rfl
        have h1 : V 1 = .agg (cU 5 (limb51 (natB f 32))).toArray := hR 1 rfl
        replace hS := hS.to [(58, .agg (cU 5 (limb51 (2#64).toNat)).toArray), (59, .agg (cU 5 (limb51 (natB f 32))).toArray)] ⟨congrArg some h0, congrArg some h1, trivial⟩
        have hM0 := hM; replace hM := hM0.low
        exact vy_pureA hS rfl (mul_ok _ _ _) fun w' hm => ⟨rfl, (hM0.after hm).keep rfl rfl⟩
      · intro S V a w hp hs hi hR hS hM
        have h2 : V 2 = .agg (cU 5 (feMul (limb51 (2#64).toNat) (limb51 (natB f 32)))).toArray := hR 2 rfl
        replace hS := hS.to [(60, .agg (cU 5 (feMul (limb51 (2#64).toNat) (limb51 (natB f 32)))).toArray)] ⟨congrArg some h2, trivial⟩
        have hM0 := hM; replace hM := hM0.low
        exact vy_pureA hS rfl (sqrt_ok _ (by first | exact limb51_ok _ | exact Tw.ok (by repeat first | assumption | exact Tw.read _ | exact Tw.small _ | exact Tw.zero | apply Tw.add | apply Tw.mul | apply Tw.neg | apply Tw.sub | apply Tw.r1 | apply Tw.inv | apply Tw.out | apply Tw.ratio1 | apply Tw.pow | exact Tw.self (by assumption))) _) fun w' hm => ⟨rfl, (hM0.after hm).keep rfl rfl⟩
      · intro S V a w hp hs hi hR hS hM
        have h3 : V 3 = .tuple #[.agg (cU 5 (outX (feMul (limb51 (2#64).toNat) (limb51 (natB f 32))))).toArray, .bool (okX (feMul (limb51 (2#64).toNat) (limb51 (natB f 32))))] := hR 3 rfl
        replace hS := hS.to [(61, .tuple #[.agg (cU 5 (outX (feMul (limb51 (2#64).toNat) (limb51 (natB f 32))))).toArray, .bool (okX (feMul (limb51 (2#64).toNat) (limb51 (natB f 32))))])] ⟨congrArg some h3, trivial⟩
        have hM0 := hM; replace hM := hM0.low
        exact vy_val rfl (r_move hS rfl) ⟨rfl, hM0.keep rfl rfl⟩
      · intro S V a w hp hs hi hR hS hM
        have h4 : V 4 = .tuple #[.agg (cU 5 (outX (feMul (limb51 (2#64).toNat) (limb51 (natB f 32))))).toArray, .bool (okX (feMul (limb51 (2#64).toNat) (limb51 (natB f 32))))] := hR 4 rfl
        replace hS := hS.to [(57, .tuple #[.agg (cU 5 (outX (feMul (limb51 (2#64).toNat) (limb51 (natB f 32))))).toArray, .bool (okX (feMul (limb51 (2#64).toNat) (limb51 (natB f 32))))])] ⟨congrArg some h4, trivial⟩
        have hM0 := hM; replace hM := hM0.low
        exact vy_val rfl (r_extract hS rfl rfl) ⟨rfl, hM0.keep rfl rfl⟩
      · intro S V a w hp hs hi hR hS hM
        have h4 : V 4 = .tuple #[.agg (cU 5 (outX (feMul (limb51 (2#64).toNat) (limb51 (natB f 32))))).toArray, .bool (okX (feMul (limb51 (2#64).toNat) (limb51 (natB f 32))))] := hR 4 rfl
        replace hS := hS.to [(57, .tuple #[.agg (cU 5 (outX (feMul (limb51 (2#64).toNat) (limb51 (natB f 32))))).toArray, .bool (okX (feMul (limb51 (2#64).toNat) (limb51 (natB f 32))))])] ⟨congrArg some h4, trivial⟩
        have hM0 := hM; replace hM := hM0.low
        exact vy_val rfl (r_extract hS rfl rfl) ⟨rfl, hM0.keep rfl rfl⟩
      · intro S V a w hp hs hi hR hS hM
        exact vy_alloc zero27 hM.low fun b w' hb hM' => ⟨⟨b, hb, rfl⟩, AL.made (hs 8 rfl) rfl hb hM'⟩
      · intro S V a w hp hs hi hR hS hM
        have h5 : V 5 = .agg (cU 5 (outX (feMul (limb51 (2#64).toNat) (limb51 (natB f 32))))).toArray := hR 5 rfl
        obtain ⟨b, hb, h7⟩ : ∃ b, w0.heap.size ≤ b ∧ V 7 = ptr b 0 := hR 7 rfl
        replace hS := hS.to [(62, .agg (cU 5 (outX (feMul (limb51 (2#64).toNat) (limb51 (natB f 32))))).toArray), (10, ptr b 0)] ⟨congrArg some h5, congrArg some h7, trivial⟩
        have hM1 := hM.ahead (hp 7 rfl) hi; rw [h7] at hM1
        exact vy_storeAll hS hM1 rfl rfl (j := 0) rfl sz27 cells_len cells_len cU_one fun w' hM' => ⟨trivial, hM.wrote (hp 7 rfl) rfl (by rw [h7]; exact hM')⟩
    clear hS hM; intro V a w hR hS hM
    obtain ⟨b10, hb10, v7⟩ : ∃ b, w0.heap.size ≤ b ∧ V 7 = ptr b 0 := hR 7 (by decide)
    have v0 : V 0 = .agg (cU 5 (limb51 (2#64).toNat)).toArray := hR 0 (by decide)
    have v1 : V 1 = .agg (cU 5 (limb51 (natB f 32))).toArray := hR 1 (by decide)
    have v2 : V 2 = .agg (cU 5 (feMul (limb51 (2#64).toNat) (limb51 (natB f 32)))).toArray := hR 2 (by decide)
    have v3 : V 3 = .tuple #[.agg (cU 5 (outX (feMul (limb51 (2#64).toNat) (limb51 (natB f 32))))).toArray, .bool (okX (feMul (limb51 (2#64).toNat) (limb51 (natB f 32))))] := hR 3 (by decide)
    have v4 : V 4 = .tuple #[.agg (cU 5 (outX (feMul (limb51 (2#64).toNat) (limb51 (natB f 32))))).toArray, .bool (okX (feMul (limb51 (2#64).toNat) (limb51 (natB f 32))))] := hR 4 (by decide)
    have v5 : V 5 = .agg (cU 5 (outX (feMul (limb51 (2#64).toNat) (limb51 (natB f 32))))).toArray := hR 5 (by decide)
    have v6 : V 6 = .bool (okX (feMul (limb51 (2#64).toNat) (limb51 (natB f 32)))) := hR 6 (by decide)
    replace hS := hS.to [(10, ptr b10 0), (58, .agg (cU 5 (limb51 (2#64).toNat)).toArray), (59, .agg (cU 5 (limb51 (natB f 32))).toArray), (60, .agg (cU 5 (feMul (limb51 (2#64).toNat) (limb51 (natB f 32)))).toArray), (61, .tuple #[.agg (cU 5 (outX (feMul (limb51 (2#64).toNat) (limb51 (natB f 32))))).toArray, .bool (okX (feMul (limb51 (2#64).toNat) (limb51 (natB f 32))))]), (57, .tuple #[.agg (cU 5 (outX (feMul (limb51 (2#64).toNat) (limb51 (natB f 32))))).toArray, .bool (okX (feMul (limb51 (2#64).toNat) (limb51 (natB f 32))))]), (62, .agg (cU 5 (outX (feMul (limb51 (2#64).toNat) (limb51 (natB f 32))))).toArray), (63, .bool (okX (feMul (limb51 (2#64).toNat) (limb51 (natB f 32))))), (4, ptr b4 0), (8, ptr b8 0), (9, .bool (okX (limb51 (natB f 32))))] ⟨congrArg some v7, congrArg some v0, congrArg some v1, congrArg some v2, congrArg some v3, congrArg some v4, congrArg some v5, congrArg some v6, rfl, rfl, rfl, trivial⟩
    replace hM := (hM.stop rfl rfl).2; rw [v7] at hM; replace hM : Mem w0 w (⟨b10, 27, cU 5 (outX (feMul (limb51 (2#64).toNat) (limb51 (natB f 32))))⟩ :: [⟨b8, 27, cU 5 (outX (limb51 (natB f 32)))⟩, ⟨b6, 27, cU 5 (outX (feMul (limb51 (natB f 32)) (limb51 (natB f 32))))⟩, ⟨b5, 27, cU 5 (feMul (limb51 (natB f 32)) (limb51 (natB f 32)))⟩, ⟨b4, 27, cU 5 (limb51 (natB f 32))⟩, ⟨b1, 22, cB 32 f⟩]) := hM
    clear hR v0 v1 v2 v3 v4 v5 v6 v7
    refine s_val hS (by decide) rfl rfl (r_assign hS rfl) ?_; clear hS; intro a hS
    refine s_nil ?_
    refine k_seq ?_
    refine c_seq ?_
    refine c_seq ?_
    refine c_region ?_
    refine s_val hS (by decide) rfl rfl (r_loadAll hS hM rfl (j := 4) rfl Try.underlying27 rfl sz27 cells_len) ?_; clear hS; intro a hS
    refine s_pure hS hM (by decide) rfl (iszero_ok _ (by first | exact limb51_ok _ | exact Tw.ok (by repeat first | assumption | exact Tw.read _ | exact Tw.small _ | exact Tw.zero | apply Tw.add | apply Tw.mul | apply Tw.neg | apply Tw.sub | apply Tw.r1 | apply Tw.inv | apply Tw.out | apply Tw.ratio1 | apply Tw.pow | exact Tw.self (by assumption))) _) ?_; clear hS hM; intro a w hS hM
    refine s_nil ?_
    refine k_seq ?_
    refine c_cond hS rfl (fun hc => ?_) (fun hc => ?_)
    · have h09 : val (limb51 (natB f 32)) % pP = 0 := (by simpa using hc); have h0 : (natB f 32 % 2 ^ 255 % pP) = 0 := (by have h9 := h09; rwa [(Tw.read f).eq] at h9); have hz1 : okX (limb51 (natB f 32)) = true := (Tw.okk (Tw.read f)).trans (by rw [h0]; exact okN_zero.1); have hz2 : okX (feMul (limb51 (2#64).toNat) (limb51 (natB f 32))) = true := (Tw.okk ((Tw.small 2#64).mul (Tw.read f))).trans (by rw [h0, Nat.mul_zero, Nat.zero_mod]; exact okN_zero.1); rw [hz1, hz2] at hS
      refine c_seq ?_
      refine c_region ?_
      refine s_val hS (by decide) rfl rfl (r_move hS rfl) ?_; clear hS; intro a hS
      refine s_val hS (by decide) rfl rfl (r_move hS rfl) ?_; clear hS; intro a hS
      refine s_valg hS (by decide) rfl rfl rfl rfl rfl (r_move hS rfl) ?_; clear hS; intro a hS
      refine s_val hS (by decide) rfl rfl (r_pick hS rfl rfl) ?_; clear hS; intro a hS
      refine s_val hS (by decide) rfl rfl (r_move hS rfl) ?_; clear hS; intro a hS
      refine s_valg hS (by decide) rfl rfl rfl rfl rfl (r_loadAll hS hM rfl (j := 1) rfl Try.underlying27 rfl sz27 cells_len) ?_; clear hS; intro a hS
      refine s_pureg hS hM (by decide) rfl rfl rfl rfl (iszero_e (by repeat first | assumption | exact Tw.read _ | exact Tw.small _ | exact Tw.zero | apply Tw.add | apply Tw.mul | apply Tw.neg | apply Tw.sub | apply Tw.r1 | apply Tw.inv | apply Tw.out | apply Tw.ratio1 | apply Tw.pow | exact Tw.self (by assumption)) (by rw [h0]; exact okN_zero.2) _) ?_; clear hS hM; intro a w hS hM
      refine s_val hS (by decide) rfl rfl (r_pick hS rfl rfl) ?_; clear hS; intro a hS
      refine s_val hS (by decide) rfl rfl (r_assign hS rfl) ?_; clear hS; intro a hS
      refine s_nil ?_
      refine k_seq ?_
      refine c_ret ?_
      refine k_thenr ?_
      exact k_res1 hS rfl (RV.tmp rfl) ⟨rfl, hM.done ⟨hb10, hb8, hb6, hb5, hb4, hb1, trivial⟩⟩
    · have h09 : ¬ val (limb51 (natB f 32)) % pP = 0 := (by simpa using hc); have h0 : ¬ (natB f 32 % 2 ^ 255 % pP) = 0 := (by have h9 := h09; rwa [(Tw.read f).eq] at h9); have h0p : 0 < (natB f 32 % 2 ^ 255 % pP) := Nat.pos_of_ne_zero h0
      refine c_skip ?_
      refine k_seq ?_
      refine c_seq ?_
      have h7 := okN_twice h0p (Nat.mod_lt _ pP_pos); rw [← (Tw.okk (Tw.read f))] at h7; cases hq : okX (limb51 (natB f 32))
      · rw [hq] at h7; have hq2 : okX (feMul (limb51 (2#64).toNat) (limb51 (natB f 32))) = true := (Tw.okk ((Tw.small 2#64).mul (Tw.read f))).trans (by simpa using h7); rw [hq, hq2] at hS
        refine c_region ?_
        refine s_val hS (by decide) rfl rfl (r_move hS rfl) ?_; clear hS; intro a hS
        refine s_val hS (by decide) rfl rfl (r_move hS rfl) ?_; clear hS; intro a hS
        refine s_val hS (by decide) rfl rfl (r_neb hS rfl rfl Try.underlying4) ?_; clear hS; intro a hS
        refine s_val hS (by decide) rfl rfl (r_move hS rfl) ?_; clear hS; intro a hS
        refine s_valg hS (by decide) rfl rfl rfl rfl rfl (r_move hS rfl) ?_; clear hS; intro a hS
        refine s_valg hS (by decide) rfl rfl rfl rfl rfl (r_move hS rfl) ?_; clear hS; intro a hS
        refine s_valg hS (by decide) rfl rfl rfl rfl rfl (r_loadAll hS hM rfl (j := 1) rfl Try.underlying27 rfl sz27 cells_len) ?_; clear hS; intro a hS
        refine s_pureg hS hM (by decide) rfl rfl rfl rfl (iszero_e (by repeat first | assumption | exact Tw.read _ | exact Tw.small _ | exact Tw.zero | apply Tw.add | apply Tw.mul | apply Tw.neg | apply Tw.sub | apply Tw.r1 | apply Tw.inv | apply Tw.out | apply Tw.ratio1 | apply Tw.pow | exact Tw.self (by assumption)) (by exact okN_no ((Tw.okk (Tw.read f)).symm.trans hq)) _) ?_; clear hS hM; intro a w hS hM
        refine s_valg hS (by decide) rfl rfl rfl rfl rfl (r_pick hS rfl rfl) ?_; clear hS; intro a hS
        refine s_val hS (by decide) rfl rfl (r_pick hS rfl rfl) ?_; clear hS; intro a hS
        refine s_val hS (by decide) rfl rfl (r_assign hS rfl) ?_; clear hS; intro a hS
        refine s_nil ?_
        refine k_seq ?_
        refine c_ret ?_
        exact k_res1 hS rfl (RV.tmp rfl) ⟨rfl, hM.done ⟨hb10, hb8, hb6, hb5, hb4, hb1, trivial⟩⟩
      · rw [hq] at h7; have hq2 : okX (feMul (limb51 (2#64).toNat) (limb51 (natB f 32))) = false := (Tw.okk ((Tw.small 2#64).mul (Tw.read f))).trans (by simpa using h7); rw [hq, hq2] at hS
        refine c_region ?_
        refine s_val hS (by decide) rfl rfl (r_move hS rfl) ?_; clear hS; intro a hS
        refine s_val hS (by decide) rfl rfl (r_move hS rfl) ?_; clear hS; intro a hS
        refine s_val hS (by decide) rfl rfl (r_neb hS rfl rfl Try.underlying4) ?_; clear hS; intro a hS
        refine s_val hS (by decide) rfl rfl (r_move hS rfl) ?_; clear hS; intro a hS
        refine s_valg hS (by decide) rfl rfl rfl rfl rfl (r_move hS rfl) ?_; clear hS; intro a hS
        refine s_valg hS (by decide) rfl rfl rfl rfl rfl (r_move hS rfl) ?_; clear hS; intro a hS
        refine s_skip hS (by decide) rfl rfl rfl rfl rfl ?_; clear hS; intro a hS
        refine s_skip hS (by decide) rfl rfl rfl rfl rfl ?_; clear hS; intro a hS
        refine s_valg hS (by decide) rfl rfl rfl rfl rfl (r_pick hS rfl rfl) ?_; clear hS; intro a hS
        refine s_val hS (by decide) rfl rfl (r_pick hS rfl rfl) ?_; clear hS; intro a hS
        refine s_val hS (by decide) rfl rfl (r_assign hS rfl) ?_; clear hS; intro a hS
        refine s_nil ?_
        refine k_seq ?_
        refine c_ret ?_
        exact k_res1 hS rfl (RV.tmp rfl) ⟨rfl, hM.done ⟨hb10, hb8, hb6, hb5, hb4, hb1, trivial⟩⟩
  · skip
    refine c_plan 30 (fun w => Mem w0 w _) [(3, _), (7, _), (6, _), (5, _), (4, _), (2, _)] (by kernel_rfl) (by kernel_rfl) hS ⟨rfl, rfl, rfl, rfl, rfl, rfl, trivial⟩ (hM.drawn _) ?_; clear hS hM
    refine p_step rfl (fun a w hS hM => y_val rfl (r_move hS rfl)) ?_
    refine p_step rfl (fun a w hS hM => y_val rfl (r_not hS rfl)) ?_
    refine p_step rfl (fun a w hS hM => y_val rfl (r_move hS rfl)) ?_
    refine p_step rfl (fun a w hS hM => y_valg hS rfl rfl rfl rfl (r_move hS rfl)) ?_
    refine p_step rfl (fun a w hS hM => y_valg hS rfl rfl rfl rfl (r_not hS rfl)) ?_
    refine p_step rfl (fun a w hS hM => y_val rfl (r_pick hS rfl rfl)) ?_
    refine p_step rfl (fun a w hS hM => y_val rfl (r_move hS rfl)) ?_
    refine p_step rfl (fun a w hS hM => y_valg hS rfl rfl rfl rfl (r_loadAll hS hM rfl (j := 0) rfl Try.underlying27 rfl sz27 cells_len)) ?_
    refine p_step rfl (fun a w hS hM => y_callg (by kernel_rfl) hS rfl rfl rfl rfl ((odd_f (by repeat first | assumption | exact Tw.read _ | exact Tw.small _ | exact Tw.zero | apply Tw.add | apply Tw.mul | apply Tw.neg | apply Tw.sub | apply Tw.r1 | apply Tw.inv | apply Tw.out | apply Tw.ratio1 | apply Tw.pow | exact Tw.self (by assumption)) (by exact outN_even2 _) _).mem hM)) ?_
    refine p_step rfl (fun a w hS hM => y_val rfl (r_pick hS rfl rfl)) ?_
    refine p_step rfl (fun a w hS hM => y_val rfl (r_move hS rfl)) ?_
    refine p_step rfl (fun a w hS hM => y_valg hS rfl rfl rfl rfl (r_loadAll hS hM rfl (j := 0) rfl Try.underlying27 rfl sz27 cells_len)) ?_
    refine p_step rfl (fun a w hS hM => y_callg (by kernel_rfl) hS rfl rfl rfl rfl ((square_ok _ _).mem hM)) ?_
    refine p_step rfl (fun a w hS hM => y_valg hS rfl rfl rfl rfl (r_loadAll hS hM rfl (j := 1) rfl Try.underlying27 rfl sz27 cells_len)) ?_
    refine p_step rfl (fun a w hS hM => y_callg (by kernel_rfl) hS rfl rfl rfl rfl ((equal_y (by repeat first | assumption | exact Tw.read _ | exact Tw.small _ | exact Tw.zero | apply Tw.add | apply Tw.mul | apply Tw.neg | apply Tw.sub | apply Tw.r1 | apply Tw.inv | apply Tw.out | apply Tw.ratio1 | apply Tw.pow | exact Tw.self (by assumption)) (by repeat first | assumption | exact Tw.read _ | exact Tw.small _ | exact Tw.zero | apply Tw.add | apply Tw.mul | apply Tw.neg | apply Tw.sub | apply Tw.r1 | apply Tw.inv | apply Tw.out | apply Tw.ratio1 | apply Tw.pow | exact Tw.self (by assumption)) (by exact (okN_out (okN_square (Nat.mod_lt _ pP_pos))).1) _).mem hM)) ?_
    refine p_step rfl (fun a w hS hM => y_valg hS rfl rfl rfl rfl (r_not hS rfl)) ?_
    refine p_step rfl (fun a w hS hM => y_val rfl (r_pick hS rfl rfl)) ?_
    refine p_step rfl (fun a w hS hM => y_val rfl (r_move hS rfl)) ?_
    refine p_step rfl (fun a w hS hM => y_valg hS rfl rfl rfl rfl (r_loadAll hS hM rfl (j := 0) rfl Try.underlying27 rfl sz27 cells_len)) ?_
    refine p_step rfl (fun a w hS hM => y_valg hS rfl rfl rfl rfl (r_loadAll hS hM rfl (j := 2) rfl Try.underlying27 rfl sz27 cells_len)) ?_
    refine p_step rfl (fun a w hS hM => y_callg (by kernel_rfl) hS rfl rfl rfl rfl ((equal_n (by repeat first | assumption | exact Tw.read _ | exact Tw.small _ | exact Tw.zero | apply Tw.add | apply Tw.mul | apply Tw.neg | apply Tw.sub | apply Tw.r1 | apply Tw.inv | apply Tw.out | apply Tw.ratio1 | apply Tw.pow | exact Tw.self (by assumption)) (by repeat first | assumption | exact Tw.read _ | exact Tw.small _ | exact Tw.zero | apply Tw.add | apply Tw.mul | apply Tw.neg | apply Tw.sub | apply Tw.r1 | apply Tw.inv | apply Tw.out | apply Tw.ratio1 | apply Tw.pow | exact Tw.self (by assumption)) (by exact hA) _).mem hM)) ?_
    refine p_step rfl (fun a w hS hM => y_valg hS rfl rfl rfl rfl (r_not hS rfl)) ?_
    refine p_step rfl (fun a w hS hM => y_valg hS rfl rfl rfl rfl (r_move hS rfl)) ?_
    refine p_step rfl (fun a w hS hM => y_valg hS rfl rfl rfl rfl (r_loadAll hS hM rfl (j := 0) rfl Try.underlying27 rfl sz27 cells_len)) ?_
    refine p_step rfl (fun a w hS hM => y_valg hS rfl rfl rfl rfl (r_loadAll hS hM rfl (j := 2) rfl Try.underlying27 rfl sz27 cells_len)) ?_
    refine p_step rfl (fun a w hS hM => y_callg (by kernel_rfl) hS rfl rfl rfl rfl ((neg_ok _ _).mem hM)) ?_
    refine p_step rfl (fun a w hS hM => y_callg (by kernel_rfl) hS rfl rfl rfl rfl ((equal_y (by repeat first | assumption | exact Tw.read _ | exact Tw.small _ | exact Tw.zero | apply Tw.add | apply Tw.mul | apply Tw.neg | apply Tw.sub | apply Tw.r1 | apply Tw.inv | apply Tw.out | apply Tw.ratio1 | apply Tw.pow | exact Tw.self (by assumption)) (by repeat first | assumption | exact Tw.read _ | exact Tw.small _ | exact Tw.zero | apply Tw.add | apply Tw.mul | apply Tw.neg | apply Tw.sub | apply Tw.r1 | apply Tw.inv | apply Tw.out | apply Tw.ratio1 | apply Tw.pow | exact Tw.self (by assumption)) (by exact (root_of_square (Nat.mod_lt _ pP_pos)).resolve_left hA) _).mem hM)) ?_
    refine p_step rfl (fun a w hS hM => y_valg hS rfl rfl rfl rfl (r_not hS rfl)) ?_
    refine p_step rfl (fun a w hS hM => y_valg hS rfl rfl rfl rfl (r_pick hS rfl rfl)) ?_
    refine p_step rfl (fun a w hS hM => y_val rfl (r_pick hS rfl rfl)) ?_
    refine p_nil rfl ?_; intro a w hS hM
    refine s_nil ?_
    refine k_seq ?_
    refine c_false hS rfl rfl ?_
    refine c_skip ?_
    refine k_seq ?_
    refine c_seq ?_
    refine c_region ?_
    refine s_val hS (by decide) rfl rfl (r_loadAll hS hM rfl (j := 2) rfl Try.underlying27 rfl sz27 cells_len) ?_; clear hS; intro a hS
    refine s_pure hS hM (by decide) rfl (sqrt_ok _ (by first | exact limb51_ok _ | exact Tw.ok (by repeat first | assumption | exact Tw.read _ | exact Tw.small _ | exact Tw.zero | apply Tw.add | apply Tw.mul | apply Tw.neg | apply Tw.sub | apply Tw.r1 | apply Tw.inv | apply Tw.out | apply Tw.ratio1 | apply Tw.pow | exact Tw.self (by assumption))) _) ?_; clear hS hM; intro a w hS hM
    refine s_val hS (by decide) rfl rfl (r_move hS rfl) ?_; clear hS; intro a hS
    refine s_val hS (by decide) rfl rfl (r_extract hS rfl rfl) ?_; clear hS; intro a hS
    refine s_val hS (by decide) rfl rfl (r_extract hS rfl rfl) ?_; clear hS; intro a hS
    refine s_alloc hS hM (by decide) zero27 ?_; clear hS hM; intro a b8 w hb8 hS hM
    refine s_storeAll hS hM rfl rfl (j := 0) rfl sz27 cells_len cells_len cU_one ?_; clear hS hM; intro a w hS hM
    refine s_val hS (by decide) rfl rfl (r_assign hS rfl) ?_; clear hS; intro a hS
    refine s_nil ?_
    refine k_seq ?_
    refine c_seq ?_
    refine c_vplan 9 (AL w0 7 8 27 (cU 5 (fun _ => 0)) (cU 5 (outX (feMul (limb51 (2#64).toNat) (limb51 (natB f 32))))) [⟨b8, 27, cU 5 (outX (limb51 (natB f 32)))⟩, ⟨b6, 27, cU 5 (outX (feMul (limb51 (natB f 32)) (limb51 (natB f 32))))⟩, ⟨b5, 27, cU 5 (feMul (limb51 (natB f 32)) (limb51 (natB f 32)))⟩, ⟨b4, 27, cU 5 (limb51 (natB f 32))⟩, ⟨b1, 22, cB 32 f⟩]) [(4, ptr b4 0), (8, ptr b8 0), (9, .bool (okX (limb51 (natB f 32))))] (fun i V => match i with | 0 => V 0 = .agg (cU 5 (limb51 (2#64).toNat)).toArray | 1 => V 1 = .agg (cU 5 (limb51 (natB f 32))).toArray | 2 => V 2 = .agg (cU 5 (feMul (limb51 (2#64).toNat) (limb51 (natB f 32)))).toArray | 3 => V 3 = .tuple #[.agg (cU 5 (outX (feMul (limb51 (2#64).toNat) (limb51 (natB f 32))))).toArray, .bool (okX (feMul (limb51 (2#64).toNat) (limb51 (natB f 32))))] | 4 => V 4 = .tuple #[.agg (cU 5 (outX (feMul (limb51 (2#64).toNat) (limb51 (natB f 32))))).toArray, .bool (okX (feMul (limb51 (2#64).toNat) (limb51 (natB f 32))))] | 5 => V 5 = .agg (cU 5 (outX (feMul (limb51 (2#64).toNat) (limb51 (natB f 32))))).toArray | 6 => V 6 = .bool (okX (feMul (limb51 (2#64).toNat) (limb51 (natB f 32)))) | 7 => ∃ b, w0.heap.size ≤ b ∧ V 7 = ptr b 0 | _ => True) (by kernel_rfl) (by kernel_rfl) hS ⟨rfl, rfl, rfl, trivial⟩ (AL.start (hM.drawn _)) ?_ ?_
    · clear hS hM
      refine ⟨?_, ?_, ?_, ?_, ?_, ?_, ?_, ?_, ?_, trivial⟩
      · intro S V a w hp hs hi hR hS hM
        replace hS := hS.to [] trivial
        have hM0 := hM; replace hM := hM0.low
        exact vy_pureA hS (vs := [U 2#64]) rfl (small_ok _ _) fun w' hm => ⟨rfl, (hM0.after hm).keep rfl rfl⟩
      · intro S V a w hp hs hi hR hS hM
        replace hS := hS.to [(4, ptr b4 0)] ⟨rfl, trivial⟩
        have hM0 := hM; replace hM := hM0.low
        exact vy_val rfl (r_loadAll hS hM rfl (j := 3) rfl Try.underlying27 rfl sz27 cells_len) ⟨rfl, hM0.keep rfl rfl⟩
      · intro S V a w hp hs hi hR hS hM
        have h0 : V 0 = .agg (cU 5 (limb51 (2#64).toNat)).toArray := hR 0 rfl
        have h1 : V 1 = .agg (cU 5 (limb51 (natB f 32))).toArray := hR 1 rfl
        replace hS := hS.to [(58, .agg (cU 5 (limb51 (2#64).toNat)).toArray), (59, .agg (cU 5 (limb51 (natB f 32))).toArray)] ⟨congrArg some h0, congrArg some h1, trivial⟩
        have hM0 := hM; replace hM := hM0.low
        exact vy_pureA hS rfl (mul_ok _ _ _) fun w' hm => ⟨rfl, (hM0.after hm).keep rfl rfl⟩
      · intro S V a w hp hs hi hR hS hM
        have h2 : V 2 = .agg (cU 5 (feMul (limb51 (2#64).toNat) (limb51 (natB f 32)))).toArray := hR 2 rfl
        replace hS := hS.to [(60, .agg (cU 5 (feMul (limb51 (2#64).toNat) (limb51 (natB f 32)))).toArray)] ⟨congrArg some h2, trivial⟩
        have hM0 := hM; replace hM := hM0.low
        exact vy_pureA hS rfl (sqrt_ok _ (by first | exact limb51_ok _ | exact Tw.ok (by repeat first | assumption | exact Tw.read _ | exact Tw.small _ | exact Tw.zero | apply Tw.add | apply Tw.mul | apply Tw.neg | apply Tw.sub | apply Tw.r1 | apply Tw.inv | apply Tw.out | apply Tw.ratio1 | apply Tw.pow | exact Tw.self (by assumption))) _) fun w' hm => ⟨rfl, (hM0.after hm).keep rfl rfl⟩
      · intro S V a w hp hs hi hR hS hM
        have h3 : V 3 = .tuple #[.agg (cU 5 (outX (feMul (limb51 (2#64).toNat) (limb51 (natB f 32))))).toArray, .bool (okX (feMul (limb51 (2#64).toNat) (limb51 (natB f 32))))] := hR 3 rfl
        replace hS := hS.to [(61, .tuple #[.agg (cU 5 (outX (feMul (limb51 (2#64).toNat) (limb51 (natB f 32))))).toArray, .bool (okX (feMul (limb51 (2#64).toNat) (limb51 (natB f 32))))])] ⟨congrArg some h3, trivial⟩
        have hM0 := hM; replace hM := hM0.low
        exact vy_val rfl (r_move hS rfl) ⟨rfl, hM0.keep rfl rfl⟩
      · intro S V a w hp hs hi hR hS hM
        have h4 : V 4 = .tuple #[.agg (cU 5 (outX (feMul (limb51 (2#64).toNat) (limb51 (natB f 32))))).toArray, .bool (okX (feMul (limb51 (2#64).toNat) (limb51 (natB f 32))))] := hR 4 rfl
        replace hS := hS.to [(57, .tuple #[.agg (cU 5 (outX (feMul (limb51 (2#64).toNat) (limb51 (natB f 32))))).toArray, .bool (okX (feMul (limb51 (2#64).toNat) (limb51 (natB f 32))))])] ⟨congrArg some h4, trivial⟩
        have hM0 := hM; replace hM := hM0.low
        exact vy_val rfl (r_extract hS rfl rfl) ⟨rfl, hM0.keep rfl rfl⟩
      · intro S V a w hp hs hi hR hS hM
        have h4 : V 4 = .tuple #[.agg (cU 5 (outX (feMul (limb51 (2#64).toNat) (limb51 (natB f 32))))).toArray, .bool (okX (feMul (limb51 (2#64).toNat) (limb51 (natB f 32))))] := hR 4 rfl
        replace hS := hS.to [(57, .tuple #[.agg (cU 5 (outX (feMul (limb51 (2#64).toNat) (limb51 (natB f 32))))).toArray, .bool (okX (feMul (limb51 (2#64).toNat) (limb51 (natB f 32))))])] ⟨congrArg some h4, trivial⟩
        have hM0 := hM; replace hM := hM0.low
        exact vy_val rfl (r_extract hS rfl rfl) ⟨rfl, hM0.keep rfl rfl⟩
      · intro S V a w hp hs hi hR hS hM
        exact vy_alloc zero27 hM.low fun b w' hb hM' => ⟨⟨b, hb, rfl⟩, AL.made (hs 8 rfl) rfl hb hM'⟩
      · intro S V a w hp hs hi hR hS hM
        have h5 : V 5 = .agg (cU 5 (outX (feMul (limb51 (2#64).toNat) (limb51 (natB f 32))))).toArray := hR 5 rfl
        obtain ⟨b, hb, h7⟩ : ∃ b, w0.heap.size ≤ b ∧ V 7 = ptr b 0 := hR 7 rfl
        replace hS := hS.to [(62, .agg (cU 5 (outX (feMul (limb51 (2#64).toNat) (limb51 (natB f 32))))).toArray), (10, ptr b 0)] ⟨congrArg some h5, congrArg some h7, trivial⟩
        have hM1 := hM.ahead (hp 7 rfl) hi; rw [h7] at hM1
        exact vy_storeAll hS hM1 rfl rfl (j := 0) rfl sz27 cells_len cells_len cU_one fun w' hM' => ⟨trivial, hM.wrote (hp 7 rfl) rfl (by rw [h7]; exact hM')⟩
    clear hS hM; intro V a w hR hS hM
    obtain ⟨b10, hb10, v7⟩ : ∃ b, w0.heap.size ≤ b ∧ V 7 = ptr b 0 := hR 7 (by decide)
    have v0 : V 0 = .agg (cU 5 (limb51 (2#64).toNat)).toArray := hR 0 (by decide)
    have v1 : V 1 = .agg (cU 5 (limb51 (natB f 32))).toArray := hR 1 (by decide)
    have v2 : V 2 = .agg (cU 5 (feMul (limb51 (2#64).toNat) (limb51 (natB f 32)))).toArray := hR 2 (by decide)
    have v3 : V 3 = .tuple #[.agg (cU 5 (outX (feMul (limb51 (2#64).toNat) (limb51 (natB f 32))))).toArray, .bool (okX (feMul (limb51 (2#64).toNat) (limb51 (natB f 32))))] := hR 3 (by decide)
    have v4 : V 4 = .tuple #[.agg (cU 5 (outX (feMul (limb51 (2#64).toNat) (limb51 (natB f 32))))).toArray, .bool (okX (feMul (limb51 (2#64).toNat) (limb51 (natB f 32))))] := hR 4 (by decide)
    have v5 : V 5 = .agg (cU 5 (outX (feMul (limb51 (2#64).toNat) (limb51 (natB f 32))))).toArray := hR 5 (by decide)
    have v6 : V 6 = .bool (okX (feMul (limb51 (2#64).toNat) (limb51 (natB f 32)))) := hR 6 (by decide)
    replace hS := hS.to [(10, ptr b10 0), (58, .agg (cU 5 (limb51 (2#64).toNat)).toArray), (59, .agg (cU 5 (limb51 (natB f 32))).toArray), (60, .agg (cU 5 (feMul (limb51 (2#64).toNat) (limb51 (natB f 32)))).toArray), (61, .tuple #[.agg (cU 5 (outX (feMul (limb51 (2#64).toNat) (limb51 (natB f 32))))).toArray, .bool (okX (feMul (limb51 (2#64).toNat) (limb51 (natB f 32))))]), (57, .tuple #[.agg (cU 5 (outX (feMul (limb51 (2#64).toNat) (limb51 (natB f 32))))).toArray, .bool (okX (feMul (limb51 (2#64).toNat) (limb51 (natB f 32))))]), (62, .agg (cU 5 (outX (feMul (limb51 (2#64).toNat) (limb51 (natB f 32))))).toArray), (63, .bool (okX (feMul (limb51 (2#64).toNat) (limb51 (natB f 32))))), (4, ptr b4 0), (8, ptr b8 0), (9, .bool (okX (limb51 (natB f 32))))] ⟨congrArg some v7, congrArg some v0, congrArg some v1, congrArg some v2, congrArg some v3, congrArg some v4, congrArg some v5, congrArg some v6, rfl, rfl, rfl, trivial⟩
    replace hM := (hM.stop rfl rfl).2; rw [v7] at hM; replace hM : Mem w0 w (⟨b10, 27, cU 5 (outX (feMul (limb51 (2#64).toNat) (limb51 (natB f 32))))⟩ :: [⟨b8, 27, cU 5 (outX (limb51 (natB f 32)))⟩, ⟨b6, 27, cU 5 (outX (feMul (limb51 (natB f 32)) (limb51 (natB f 32))))⟩, ⟨b5, 27, cU 5 (feMul (limb51 (natB f 32)) (limb51 (natB f 32)))⟩, ⟨b4, 27, cU 5 (limb51 (natB f 32))⟩, ⟨b1, 22, cB 32 f⟩]) := hM
    clear hR v0 v1 v2 v3 v4 v5 v6 v7
    refine s_val hS (by decide) rfl rfl (r_assign hS rfl) ?_; clear hS; intro a hS
    refine s_nil ?_
    refine k_seq ?_
    refine c_seq ?_
    refine c_seq ?_
    refine c_region ?_
    refine s_val hS (by decide) rfl rfl (r_loadAll hS hM rfl (j := 4) rfl Try.underlying27 rfl sz27 cells_len) ?_; clear hS; intro a hS
    refine s_pure hS hM (by decide) rfl (iszero_ok _ (by first | exact limb51_ok _ | exact Tw.ok (by repeat first | assumption | exact Tw.read _ | exact Tw.small _ | exact Tw.zero | apply Tw.add | apply Tw.mul | apply Tw.neg | apply Tw.sub | apply Tw.r1 | apply Tw.inv | apply Tw.out | apply Tw.ratio1 | apply Tw.pow | exact Tw.self (by assumption))) _) ?_; clear hS hM; intro a w hS hM
    refine s_nil ?_
    refine k_seq ?_
    refine c_cond hS rfl (fun hc => ?_) (fun hc => ?_)
    · have h09 : val (limb51 (natB f 32)) % pP = 0 := (by simpa using hc); have h0 : (natB f 32 % 2 ^ 255 % pP) = 0 := (by have h9 := h09; rwa [(Tw.read f).eq] at h9); have hz1 : okX (limb51 (natB f 32)) = true := (Tw.okk (Tw.read f)).trans (by rw [h0]; exact okN_zero.1); have hz2 : okX (feMul (limb51 (2#64).toNat) (limb51 (natB f 32))) = true := (Tw.okk ((Tw.small 2#64).mul (Tw.read f))).trans (by rw [h0, Nat.mul_zero, Nat.zero_mod]; exact okN_zero.1); rw [hz1, hz2] at hS
      refine c_seq ?_
      refine c_region ?_
      refine s_val hS (by decide) rfl rfl (r_move hS rfl) ?_; clear hS; intro a hS
      refine s_val hS (by decide) rfl rfl (r_move hS rfl) ?_; clear hS; intro a hS
      refine s_valg hS (by decide) rfl rfl rfl rfl rfl (r_move hS rfl) ?_; clear hS; intro a hS
      refine s_val hS (by decide) rfl rfl (r_pick hS rfl rfl) ?_; clear hS; intro a hS
      refine s_val hS (by decide) rfl rfl (r_move hS rfl) ?_; clear hS; intro a hS
      refine s_valg hS (by decide) rfl rfl rfl rfl rfl (r_loadAll hS hM rfl (j := 1) rfl Try.underlying27 rfl sz27 cells_len) ?_; clear hS; intro a hS
      refine s_pureg hS hM (by decide) rfl rfl rfl rfl (iszero_e (by repeat first | assumption | exact Tw.read _ | exact Tw.small _ | exact Tw.zero | apply Tw.add | apply Tw.mul | apply Tw.neg | apply Tw.sub | apply Tw.r1 | apply Tw.inv | apply Tw.out | apply Tw.ratio1 | apply Tw.pow | exact Tw.self (by assumption)) (by rw [h0]; exact okN_zero.2) _) ?_; clear hS hM; intro a w hS hM
      refine s_val hS (by decide) rfl rfl (r_pick hS rfl rfl) ?_; clear hS; intro a hS
      refine s_val hS (by decide) rfl rfl (r_assign hS rfl) ?_; clear hS; intro a hS
      refine s_nil ?_
      refine k_seq ?_
      refine c_ret ?_
      refine k_thenr ?_
      exact k_res1 hS rfl (RV.tmp rfl) ⟨rfl, hM.done ⟨hb10, hb8, hb6, hb5, hb4, hb1, trivial⟩⟩
    · have h09 : ¬ val (limb51 (natB f 32)) % pP = 0 := (by simpa using hc); have h0 : ¬ (natB f 32 % 2 ^ 255 % pP) = 0 := (by have h9 := h09; rwa [(Tw.read f).eq] at h9); have h0p : 0 < (natB f 32 % 2 ^ 255 % pP) := Nat.pos_of_ne_zero h0
      refine c_skip ?_
      refine k_seq ?_
      refine c_seq ?_
      have h7 := okN_twice h0p (Nat.mod_lt _ pP_pos); rw [← (Tw.okk (Tw.read f))] at h7; cases hq : okX (limb51 (natB f 32))
      · rw [hq] at h7; have hq2 : okX (feMul (limb51 (2#64).toNat) (limb51 (natB f 32))) = true := (Tw.okk ((Tw.small 2#64).mul (Tw.read f))).trans (by simpa using h7); rw [hq, hq2] at hS
        refine c_region ?_
        refine s_val hS (by decide) rfl rfl (r_move hS rfl) ?_; clear hS; intro a hS
        refine s_val hS (by decide) rfl rfl (r_move hS rfl) ?_; clear hS; intro a hS
        refine s_val hS (by decide) rfl rfl (r_neb hS rfl rfl Try.underlying4) ?_; clear hS; intro a hS
        refine s_val hS (by decide) rfl rfl (r_move hS rfl) ?_; clear hS; intro a hS
        refine s_valg hS (by decide) rfl rfl rfl rfl rfl (r_move hS rfl) ?_; clear hS; intro a hS
        refine s_valg hS (by decide) rfl rfl rfl rfl rfl (r_move hS rfl) ?_; clear hS; intro a hS
        refine s_valg hS (by decide) rfl rfl rfl rfl rfl (r_loadAll hS hM rfl (j := 1) rfl Try.underlying27 rfl sz27 cells_len) ?_; clear hS; intro a hS
        refine s_pureg hS hM (by decide) rfl rfl rfl rfl (iszero_e (by repeat first | assumption | exact Tw.read _ | exact Tw.small _ | exact Tw.zero | apply Tw.add | apply Tw.mul | apply Tw.neg | apply Tw.sub | apply Tw.r1 | apply Tw.inv | apply Tw.out | apply Tw.ratio1 | apply Tw.pow | exact Tw.self (by assumption)) (by exact okN_no ((Tw.okk (Tw.read f)).symm.trans hq)) _) ?_; clear hS hM; intro a w hS hM
        refine s_valg hS (by decide) rfl rfl rfl rfl rfl (r_pick hS rfl rfl) ?_; clear hS; intro a hS
        refine s_val hS (by decide) rfl rfl (r_pick hS rfl rfl) ?_; clear hS; intro a hS
        refine s_val hS (by decide) rfl rfl (r_assign hS rfl) ?_; clear hS; intro a hS
        refine s_nil ?_
        refine k_seq ?_
        refine c_ret ?_
        exact k_res1 hS rfl (RV.tmp rfl) ⟨rfl, hM.done ⟨hb10, hb8, hb6, hb5, hb4, hb1, trivial⟩⟩
      · rw [hq] at h7; have hq2 : okX (feMul (limb51 (2#64).toNat) (limb51 (natB f 32))) = false := (Tw.okk ((Tw.small 2#64).mul (Tw.read f))).trans (by simpa using h7); rw [hq, hq2] at hS
        refine c_region ?_
        refine s_val hS (by decide) rfl rfl (r_move hS rfl) ?_; clear hS; intro a hS
        refine s_val hS (by decide) rfl rfl (r_move hS rfl) ?_; clear hS; intro a hS
        refine s_val hS (by decide) rfl rfl (r_neb hS rfl rfl Try.underlying4) ?_; clear hS; intro a hS
        refine s_val hS (by decide) rfl rfl (r_move hS rfl) ?_; clear hS; intro a hS
        refine s_valg hS (by decide) rfl rfl rfl rfl rfl (r_move hS rfl) ?_; clear hS; intro a hS
        refine s_valg hS (by decide) rfl rfl rfl rfl rfl (r_move hS rfl) ?_; clear hS; intro a hS
        refine s_skip hS (by decide) rfl rfl rfl rfl rfl ?_; clear hS; intro a hS
        refine s_skip hS (by decide) rfl rfl rfl rfl rfl ?_; clear hS; intro a hS
        refine s_valg hS (by decide) rfl rfl rfl rfl rfl (r_pick hS rfl rfl) ?_; clear hS; intro a hS
        refine s_val hS (by decide) rfl rfl (r_pick hS rfl rfl) ?_; clear hS; intro a hS
        refine s_val hS (by decide) rfl rfl (r_assign hS rfl) ?_; clear hS; intro a hS
        refine s_nil ?_
        refine k_seq ?_
        refine c_ret ?_
        exact k_res1 hS rfl (RV.tmp rfl) ⟨rfl, hM.done ⟨hb10, hb8, hb6, hb5, hb4, hb1, trivial⟩⟩

set_option maxRecDepth 100000 in
theorem powersTell_ok (f g e : Nat → BitVec 8) (w0 : World) : Pure Try.prog 12 #[.agg (cB 32 f).toArray, .agg (cB 32 g).toArray, .agg (cB 32 e).toArray] w0 (.bool true) := by
  refine ⟨by kernel_rfl, ?_⟩
  refine calls_sym Try.func12 rfl (by kernel_rfl) ?_
  intro a hS
  have hM : Mem w0 w0 [] := Mem.refl w0
  refine c_seq ?_
  refine c_region ?_
  refine s_box hS hM (by decide) rfl rfl ?_; clear hS hM; intro a b3 w hb3 hS hM
  refine s_box hS hM (by decide) rfl rfl ?_; clear hS hM; intro a b4 w hb4 hS hM
  refine s_box hS hM (by decide) rfl rfl ?_; clear hS hM; intro a b5 w hb5 hS hM
  refine s_val hS (by decide) rfl rfl (r_assign hS rfl) ?_; clear hS; intro a hS
  refine s_nil ?_
  refine k_seq ?_
  refine c_seq ?_
  refine c_region ?_
  refine s_pure hS hM (by decide) rfl (alive10_ok _) ?_; clear hS hM; intro a w hS hM
  refine s_val hS (by decide) rfl rfl (r_assign hS rfl) ?_; clear hS; intro a hS
  refine s_nil ?_
  refine k_seq ?_
  refine c_seq ?_
  refine c_region ?_
  refine s_val hS (by decide) rfl rfl (r_loadAll hS hM rfl (j := 2) rfl Try.underlying22 rfl sz22 cells_len) ?_; clear hS; intro a hS
  refine s_pure hS hM (by decide) rfl (from_ok _ _) ?_; clear hS hM; intro a w hS hM
  refine s_alloc hS hM (by decide) zero27 ?_; clear hS hM; intro a b8 w hb8 hS hM
  refine s_storeAll hS hM rfl rfl (j := 0) rfl sz27 cells_len cells_len cU_one ?_; clear hS hM; intro a w hS hM
  refine s_nil ?_
  refine k_seq ?_
  refine c_seq ?_
  refine c_region ?_
  refine s_val hS (by decide) rfl rfl (r_loadAll hS hM rfl (j := 2) rfl Try.underlying22 rfl sz22 cells_len) ?_; clear hS; intro a hS
  refine s_pure hS hM (by decide) rfl (from_ok _ _) ?_; clear hS hM; intro a w hS hM
  refine s_alloc hS hM (by decide) zero27 ?_; clear hS hM; intro a b9 w hb9 hS hM
  refine s_storeAll hS hM rfl rfl (j := 0) rfl sz27 cells_len cells_len cU_one ?_; clear hS hM; intro a w hS hM
  refine s_nil ?_
  refine k_seq ?_
  refine c_seq ?_
  refine c_region ?_
  refine s_val hS (by decide) rfl rfl (r_loadAll hS hM rfl (j := 4) rfl Try.underlying22 rfl sz22 cells_len) ?_; clear hS; intro a hS
  refine s_pure hS hM (by decide) rfl (rfrom_ok _ _) ?_; clear hS hM; intro a w hS hM
  refine s_alloc hS hM (by decide) zero37 ?_; clear hS hM; intro a b10 w hb10 hS hM
  refine s_storeAll hS hM rfl rfl (j := 0) rfl sz37 cells_len cells_len cI_one ?_; clear hS hM; intro a w hS hM
  refine s_nil ?_
  refine k_seq ?_
  refine c_seq ?_
  refine c_region ?_
  refine s_val hS (by decide) rfl rfl (r_loadAll hS hM rfl (j := 4) rfl Try.underlying22 rfl sz22 cells_len) ?_; clear hS; intro a hS
  refine s_pure hS hM (by decide) rfl (rfrom_ok _ _) ?_; clear hS hM; intro a w hS hM
  refine s_alloc hS hM (by decide) zero37 ?_; clear hS hM; intro a b11 w hb11 hS hM
  refine s_storeAll hS hM rfl rfl (j := 0) rfl sz37 cells_len cells_len cI_one ?_; clear hS hM; intro a w hS hM
  refine s_nil ?_
  refine k_seq ?_
  refine c_seq ?_
  refine c_region ?_
  refine s_val hS (by decide) rfl rfl (r_loadAll hS hM rfl (j := 3) rfl Try.underlying27 rfl sz27 cells_len) ?_; clear hS; intro a hS
  refine s_pure hS hM (by decide) rfl (sqrt_ok _ (by first | exact limb51_ok _ | exact Tw.ok (by repeat first | assumption | exact Tw.read _ | exact Tw.small _ | exact Tw.zero | apply Tw.add | apply Tw.mul | apply Tw.neg | apply Tw.sub | apply Tw.r1 | apply Tw.inv | apply Tw.out | apply Tw.ratio1 | apply Tw.pow | exact Tw.self (by assumption))) _) ?_; clear hS hM; intro a w hS hM
  refine s_val hS (by decide) rfl rfl (r_move hS rfl) ?_; clear hS; intro a hS
  refine s_val hS (by decide) rfl rfl (r_extract hS rfl rfl) ?_; clear hS; intro a hS
  refine s_val hS (by decide) rfl rfl (r_extract hS rfl rfl) ?_; clear hS; intro a hS
  refine s_alloc hS hM (by decide) zero27 ?_; clear hS hM; intro a b12 w hb12 hS hM
  refine s_storeAll hS hM rfl rfl (j := 0) rfl sz27 cells_len cells_len cU_one ?_; clear hS hM; intro a w hS hM
  refine s_val hS (by decide) rfl rfl (r_assign hS rfl) ?_; clear hS; intro a hS
  refine s_nil ?_
  refine k_seq ?_
  refine c_seq ?_
  refine c_region ?_
  refine s_val hS (by decide) rfl rfl (r_loadAll hS hM rfl (j := 2) rfl Try.underlying37 rfl sz37 cells_len) ?_; clear hS; intro a hS
  refine s_pure hS hM (by decide) rfl (rsqrt_ok _ (by first | exact Nat.mod_lt _ pP_pos | exact pw_lt _ _ | exact np_lt _ _ _ | exact small_lt _ | exact r1N_lt _ | exact outN_lt _ | exact invN_lt _ | exact Tw.lt (by assumption) | assumption) _) ?_; clear hS hM; intro a w hS hM
  refine s_val hS (by decide) rfl rfl (r_move hS rfl) ?_; clear hS; intro a hS
  refine s_val hS (by decide) rfl rfl (r_extract hS rfl rfl) ?_; clear hS; intro a hS
  refine s_val hS (by decide) rfl rfl (r_extract hS rfl rfl) ?_; clear hS; intro a hS
  refine s_alloc hS hM (by decide) zero37 ?_; clear hS hM; intro a b14 w hb14 hS hM
  refine s_storeAll hS hM rfl rfl (j := 0) rfl sz37 cells_len cells_len cI_one ?_; clear hS hM; intro a w hS hM
  refine s_val hS (by decide) rfl rfl (r_assign hS rfl) ?_; clear hS; intro a hS
  refine s_nil ?_
  refine k_seq ?_
  refine c_seq ?_
  refine c_region ?_
  refine s_val hS (by decide) rfl rfl (r_loadAll hS hM rfl (j := 5) rfl Try.underlying27 rfl sz27 cells_len) ?_; clear hS; intro a hS
  refine s_val hS (by decide) rfl rfl (r_loadAll hS hM rfl (j := 4) rfl Try.underlying27 rfl sz27 cells_len) ?_; clear hS; intro a hS
  refine s_pure hS hM (by decide) rfl (ratio_ok _ _ (by first | exact limb51_ok _ | exact Tw.ok (by repeat first | assumption | exact Tw.read _ | exact Tw.small _ | exact Tw.zero | apply Tw.add | apply Tw.mul | apply Tw.neg | apply Tw.sub | apply Tw.r1 | apply Tw.inv | apply Tw.out | apply Tw.ratio1 | apply Tw.pow | exact Tw.self (by assumption))) (by first | exact limb51_ok _ | exact Tw.ok (by repeat first | assumption | exact Tw.read _ | exact Tw.small _ | exact Tw.zero | apply Tw.add | apply Tw.mul | apply Tw.neg | apply Tw.sub | apply Tw.r1 | apply Tw.inv | apply Tw.out | apply Tw.ratio1 | apply Tw.pow | exact Tw.self (by assumption))) _) ?_; clear hS hM; intro a w hS hM
  refine s_val hS (by decide) rfl rfl (r_move hS rfl) ?_; clear hS; intro a hS
  refine s_val hS (by decide) rfl rfl (r_extract hS rfl rfl) ?_; clear hS; intro a hS
  refine s_val hS (by decide) rfl rfl (r_extract hS rfl rfl) ?_; clear hS; intro a hS
  refine s_alloc hS hM (by decide) zero27 ?_; clear hS hM; intro a b16 w hb16 hS hM
  refine s_storeAll hS hM rfl rfl (j := 0) rfl sz27 cells_len cells_len cU_one ?_; clear hS hM; intro a w hS hM
  refine s_val hS (by decide) rfl rfl (r_assign hS rfl) ?_; clear hS; intro a hS
  refine s_nil ?_
  refine k_seq ?_
  refine c_seq ?_
  refine c_region ?_
  refine s_val hS (by decide) rfl rfl (r_loadAll hS hM rfl (j := 4) rfl Try.underlying37 rfl sz37 cells_len) ?_; clear hS; intro a hS
  refine s_val hS (by decide) rfl rfl (r_loadAll hS hM rfl (j := 3) rfl Try.underlying37 rfl sz37 cells_len) ?_; clear hS; intro a hS
  refine s_pure hS hM (by decide) rfl (rratio_ok _ _ (by first | exact Nat.mod_lt _ pP_pos | exact pw_lt _ _ | exact np_lt _ _ _ | exact small_lt _ | exact r1N_lt _ | exact outN_lt _ | exact invN_lt _ | exact Tw.lt (by assumption) | assumption) (by first | exact Nat.mod_lt _ pP_pos | exact pw_lt _ _ | exact np_lt _ _ _ | exact small_lt _ | exact r1N_lt _ | exact outN_lt _ | exact invN_lt _ | exact Tw.lt (by assumption) | assumption) _) ?_; clear hS hM; intro a w hS hM
  refine s_val hS (by decide) rfl rfl (r_move hS rfl) ?_; clear hS; intro a hS
  refine s_val hS (by decide) rfl rfl (r_extract hS rfl rfl) ?_; clear hS; intro a hS
  refine s_val hS (by decide) rfl rfl (r_extract hS rfl rfl) ?_; clear hS; intro a hS
  refine s_alloc hS hM (by decide) zero37 ?_; clear hS hM; intro a b18 w hb18 hS hM
  refine s_storeAll hS hM rfl rfl (j := 0) rfl sz37 cells_len cells_len cI_one ?_; clear hS hM; intro a w hS hM
  refine s_val hS (by decide) rfl rfl (r_assign hS rfl) ?_; clear hS; intro a hS
  refine s_nil ?_
  refine k_seq ?_
  refine c_seq ?_
  refine c_plan 46 (fun w => Mem w0 w _) [(7, _), (8, _), (5, _), (10, _), (13, _), (15, _), (12, _), (14, _), (17, _), (19, _), (16, _), (18, _)] (by kernel_rfl) (by kernel_rfl) hS ⟨rfl, rfl, rfl, rfl, rfl, rfl, rfl, rfl, rfl, rfl, rfl, rfl, trivial⟩ (hM.drawn _) ?_; clear hS hM
  refine p_step rfl (fun a w hS hM => y_val rfl (r_move hS rfl)) ?_
  refine p_step rfl (fun a w hS hM => y_val rfl (r_move hS rfl)) ?_
  refine p_step rfl (fun a w hS hM => y_valg hS rfl rfl rfl rfl (r_loadAll hS hM rfl (j := 7) rfl Try.underlying27 rfl sz27 cells_len)) ?_
  refine p_step rfl (fun a w hS hM => y_valg hS rfl rfl rfl rfl (r_loadAll hS hM rfl (j := 8) rfl Try.underlying22 rfl sz22 cells_len)) ?_
  refine p_step rfl (fun a w hS hM => y_callg (by kernel_rfl) hS rfl rfl rfl rfl ((pow_ok _ _ _).mem hM)) ?_
  refine p_step rfl (fun a w hS hM => y_callg (by kernel_rfl) hS rfl rfl rfl rfl ((bytes_ok _ (by first | exact limb51_ok _ | exact Tw.ok (by repeat first | assumption | exact Tw.read _ | exact Tw.small _ | exact Tw.zero | apply Tw.add | apply Tw.mul | apply Tw.neg | apply Tw.sub | apply Tw.r1 | apply Tw.inv | apply Tw.out | apply Tw.ratio1 | apply Tw.pow | exact Tw.self (by assumption))) _).mem hM)) ?_
  refine p_step rfl (fun a w hS hM => y_valg hS rfl rfl rfl rfl (r_loadAll hS hM rfl (j := 5) rfl Try.underlying37 rfl sz37 cells_len)) ?_
  refine p_step rfl (fun a w hS hM => y_valg hS rfl rfl rfl rfl (r_loadAll hS hM rfl (j := 8) rfl Try.underlying22 rfl sz22 cells_len)) ?_
  refine p_step rfl (fun a w hS hM => y_callg (by kernel_rfl) hS rfl rfl rfl rfl ((rpow_ok _ _ (by first | exact Nat.mod_lt _ pP_pos | exact pw_lt _ _ | exact np_lt _ _ _ | exact small_lt _ | exact r1N_lt _ | exact outN_lt _ | exact invN_lt _ | exact Tw.lt (by assumption) | assumption) _).mem hM)) ?_
  refine p_step rfl (fun a w hS hM => y_callg (by kernel_rfl) hS rfl rfl rfl rfl ((rbytes_ok _ _).mem hM)) ?_
  refine p_step rfl (fun a w hS hM => y_valg hS rfl rfl rfl rfl (r_eqlBt hS rfl rfl (by kernel_rfl) Try.underlying22 Try.underlying5 sz5 (tw_bytes (by repeat first | assumption | exact Tw.read _ | exact Tw.small _ | exact Tw.zero | apply Tw.add | apply Tw.mul | apply Tw.neg | apply Tw.sub | apply Tw.r1 | apply Tw.inv | apply Tw.out | apply Tw.ratio1 | apply Tw.pow | exact Tw.self (by assumption))))) ?_
  refine p_step rfl (fun a w hS hM => y_val rfl (r_pick hS rfl rfl)) ?_
  refine p_step rfl (fun a w hS hM => y_val rfl (r_move hS rfl)) ?_
  refine p_step rfl (fun a w hS hM => y_valg hS rfl rfl rfl rfl (r_loadAll hS hM rfl (j := 7) rfl Try.underlying27 rfl sz27 cells_len)) ?_
  refine p_step rfl (fun a w hS hM => y_callg (by kernel_rfl) hS rfl rfl rfl rfl ((invert_ok _ _).mem hM)) ?_
  refine p_step rfl (fun a w hS hM => y_callg (by kernel_rfl) hS rfl rfl rfl rfl ((bytes_ok _ (by first | exact limb51_ok _ | exact Tw.ok (by repeat first | assumption | exact Tw.read _ | exact Tw.small _ | exact Tw.zero | apply Tw.add | apply Tw.mul | apply Tw.neg | apply Tw.sub | apply Tw.r1 | apply Tw.inv | apply Tw.out | apply Tw.ratio1 | apply Tw.pow | exact Tw.self (by assumption))) _).mem hM)) ?_
  refine p_step rfl (fun a w hS hM => y_valg hS rfl rfl rfl rfl (r_loadAll hS hM rfl (j := 5) rfl Try.underlying37 rfl sz37 cells_len)) ?_
  refine p_step rfl (fun a w hS hM => y_callg (by kernel_rfl) hS rfl rfl rfl rfl ((rinvert_ok _ (by first | exact Nat.mod_lt _ pP_pos | exact pw_lt _ _ | exact np_lt _ _ _ | exact small_lt _ | exact r1N_lt _ | exact outN_lt _ | exact invN_lt _ | exact Tw.lt (by assumption) | assumption) _).mem hM)) ?_
  refine p_step rfl (fun a w hS hM => y_callg (by kernel_rfl) hS rfl rfl rfl rfl ((rbytes_ok _ _).mem hM)) ?_
  refine p_step rfl (fun a w hS hM => y_valg hS rfl rfl rfl rfl (r_eqlBt hS rfl rfl (by kernel_rfl) Try.underlying22 Try.underlying5 sz5 (tw_bytes (by repeat first | assumption | exact Tw.read _ | exact Tw.small _ | exact Tw.zero | apply Tw.add | apply Tw.mul | apply Tw.neg | apply Tw.sub | apply Tw.r1 | apply Tw.inv | apply Tw.out | apply Tw.ratio1 | apply Tw.pow | exact Tw.self (by assumption))))) ?_
  refine p_step rfl (fun a w hS hM => y_val rfl (r_pick hS rfl rfl)) ?_
  refine p_step rfl (fun a w hS hM => y_val rfl (r_move hS rfl)) ?_
  refine p_step rfl (fun a w hS hM => y_valg hS rfl rfl rfl rfl (r_move hS rfl)) ?_
  refine p_step rfl (fun a w hS hM => y_valg hS rfl rfl rfl rfl (r_move hS rfl)) ?_
  refine p_step rfl (fun a w hS hM => y_valg hS rfl rfl rfl rfl (r_eqbt hS rfl rfl Try.underlying4 (Tw.okk (Tw.read f)))) ?_
  refine p_step rfl (fun a w hS hM => y_val rfl (r_pick hS rfl rfl)) ?_
  refine p_step rfl (fun a w hS hM => y_val rfl (r_move hS rfl)) ?_
  refine p_step rfl (fun a w hS hM => y_valg hS rfl rfl rfl rfl (r_loadAll hS hM rfl (j := 3) rfl Try.underlying27 rfl sz27 cells_len)) ?_
  refine p_step rfl (fun a w hS hM => y_callg (by kernel_rfl) hS rfl rfl rfl rfl ((bytes_ok _ (by first | exact limb51_ok _ | exact Tw.ok (by repeat first | assumption | exact Tw.read _ | exact Tw.small _ | exact Tw.zero | apply Tw.add | apply Tw.mul | apply Tw.neg | apply Tw.sub | apply Tw.r1 | apply Tw.inv | apply Tw.out | apply Tw.ratio1 | apply Tw.pow | exact Tw.self (by assumption))) _).mem hM)) ?_
  refine p_step rfl (fun a w hS hM => y_valg hS rfl rfl rfl rfl (r_loadAll hS hM rfl (j := 2) rfl Try.underlying37 rfl sz37 cells_len)) ?_
  refine p_step rfl (fun a w hS hM => y_callg (by kernel_rfl) hS rfl rfl rfl rfl ((rbytes_ok _ _).mem hM)) ?_
  refine p_step rfl (fun a w hS hM => y_valg hS rfl rfl rfl rfl (r_eqlBt hS rfl rfl (by kernel_rfl) Try.underlying22 Try.underlying5 sz5 (tw_bytes (by repeat first | assumption | exact Tw.read _ | exact Tw.small _ | exact Tw.zero | apply Tw.add | apply Tw.mul | apply Tw.neg | apply Tw.sub | apply Tw.r1 | apply Tw.inv | apply Tw.out | apply Tw.ratio1 | apply Tw.pow | exact Tw.self (by assumption))))) ?_
  refine p_step rfl (fun a w hS hM => y_val rfl (r_pick hS rfl rfl)) ?_
  refine p_step rfl (fun a w hS hM => y_val rfl (r_move hS rfl)) ?_
  refine p_step rfl (fun a w hS hM => y_valg hS rfl rfl rfl rfl (r_move hS rfl)) ?_
  refine p_step rfl (fun a w hS hM => y_valg hS rfl rfl rfl rfl (r_move hS rfl)) ?_
  refine p_step rfl (fun a w hS hM => y_valg hS rfl rfl rfl rfl (r_eqbt hS rfl rfl Try.underlying4 (Tw.ratio (Tw.read f) (Tw.read g)).2)) ?_
  refine p_step rfl (fun a w hS hM => y_val rfl (r_pick hS rfl rfl)) ?_
  refine p_step rfl (fun a w hS hM => y_val rfl (r_move hS rfl)) ?_
  refine p_step rfl (fun a w hS hM => y_valg hS rfl rfl rfl rfl (r_loadAll hS hM rfl (j := 1) rfl Try.underlying27 rfl sz27 cells_len)) ?_
  refine p_step rfl (fun a w hS hM => y_callg (by kernel_rfl) hS rfl rfl rfl rfl ((bytes_ok _ (by first | exact limb51_ok _ | exact Tw.ok (by repeat first | assumption | exact Tw.read _ | exact Tw.small _ | exact Tw.zero | apply Tw.add | apply Tw.mul | apply Tw.neg | apply Tw.sub | apply Tw.r1 | apply Tw.inv | apply Tw.out | apply Tw.ratio1 | apply Tw.pow | exact Tw.self (by assumption))) _).mem hM)) ?_
  refine p_step rfl (fun a w hS hM => y_valg hS rfl rfl rfl rfl (r_loadAll hS hM rfl (j := 0) rfl Try.underlying37 rfl sz37 cells_len)) ?_
  refine p_step rfl (fun a w hS hM => y_callg (by kernel_rfl) hS rfl rfl rfl rfl ((rbytes_ok _ _).mem hM)) ?_
  refine p_step rfl (fun a w hS hM => y_valg hS rfl rfl rfl rfl (r_eqlBt hS rfl rfl (by kernel_rfl) Try.underlying22 Try.underlying5 sz5 (tw_bytes (by repeat first | assumption | exact Tw.read _ | exact Tw.small _ | exact Tw.zero | apply Tw.add | apply Tw.mul | apply Tw.neg | apply Tw.sub | apply Tw.r1 | apply Tw.inv | apply Tw.out | apply Tw.ratio1 | apply Tw.pow | exact Tw.self (by assumption))))) ?_
  refine p_step rfl (fun a w hS hM => y_val rfl (r_pick hS rfl rfl)) ?_
  refine p_step rfl (fun a w hS hM => y_val rfl (r_assign hS rfl)) ?_
  refine p_nil rfl ?_; intro a w hS hM
  refine s_nil ?_
  refine k_seq ?_
  refine c_ret ?_
  exact k_res1 hS rfl (RV.tmp rfl) ⟨rfl, hM.done ⟨hb18, hb16, hb14, hb12, hb11, hb10, hb9, hb8, hb5, hb4, hb3, trivial⟩⟩

set_option maxRecDepth 100000 in
theorem powersRatio_ok (f g : Nat → BitVec 8) (w0 : World) : Pure Try.prog 13 #[.agg (cB 32 f).toArray, .agg (cB 32 g).toArray] w0 (.bool true) := by
  refine ⟨by kernel_rfl, ?_⟩
  refine calls_sym Try.func13 rfl (by kernel_rfl) ?_
  intro a hS
  have hM : Mem w0 w0 [] := Mem.refl w0
  refine c_seq ?_
  refine c_region ?_
  refine s_box hS hM (by decide) rfl rfl ?_; clear hS hM; intro a b2 w hb2 hS hM
  refine s_box hS hM (by decide) rfl rfl ?_; clear hS hM; intro a b3 w hb3 hS hM
  refine s_val hS (by decide) rfl rfl (r_assign hS rfl) ?_; clear hS; intro a hS
  refine s_nil ?_
  refine k_seq ?_
  refine c_seq ?_
  refine c_region ?_
  refine s_pure hS hM (by decide) rfl (alive10_ok _) ?_; clear hS hM; intro a w hS hM
  refine s_val hS (by decide) rfl rfl (r_assign hS rfl) ?_; clear hS; intro a hS
  refine s_nil ?_
  refine k_seq ?_
  refine c_seq ?_
  refine c_region ?_
  refine s_val hS (by decide) rfl rfl (r_loadAll hS hM rfl (j := 1) rfl Try.underlying22 rfl sz22 cells_len) ?_; clear hS; intro a hS
  refine s_pure hS hM (by decide) rfl (from_ok _ _) ?_; clear hS hM; intro a w hS hM
  refine s_alloc hS hM (by decide) zero27 ?_; clear hS hM; intro a b6 w hb6 hS hM
  refine s_storeAll hS hM rfl rfl (j := 0) rfl sz27 cells_len cells_len cU_one ?_; clear hS hM; intro a w hS hM
  refine s_nil ?_
  refine k_seq ?_
  refine c_seq ?_
  refine c_region ?_
  refine s_val hS (by decide) rfl rfl (r_loadAll hS hM rfl (j := 1) rfl Try.underlying22 rfl sz22 cells_len) ?_; clear hS; intro a hS
  refine s_pure hS hM (by decide) rfl (from_ok _ _) ?_; clear hS hM; intro a w hS hM
  refine s_alloc hS hM (by decide) zero27 ?_; clear hS hM; intro a b7 w hb7 hS hM
  refine s_storeAll hS hM rfl rfl (j := 0) rfl sz27 cells_len cells_len cU_one ?_; clear hS hM; intro a w hS hM
  refine s_nil ?_
  refine k_seq ?_
  refine c_seq ?_
  refine c_region ?_
  refine s_val hS (by decide) rfl rfl (r_loadAll hS hM rfl (j := 1) rfl Try.underlying27 rfl sz27 cells_len) ?_; clear hS; intro a hS
  refine s_val hS (by decide) rfl rfl (r_loadAll hS hM rfl (j := 0) rfl Try.underlying27 rfl sz27 cells_len) ?_; clear hS; intro a hS
  refine s_pure hS hM (by decide) rfl (ratio_ok _ _ (by first | exact limb51_ok _ | exact Tw.ok (by repeat first | assumption | exact Tw.read _ | exact Tw.small _ | exact Tw.zero | apply Tw.add | apply Tw.mul | apply Tw.neg | apply Tw.sub | apply Tw.r1 | apply Tw.inv | apply Tw.out | apply Tw.ratio1 | apply Tw.pow | exact Tw.self (by assumption))) (by first | exact limb51_ok _ | exact Tw.ok (by repeat first | assumption | exact Tw.read _ | exact Tw.small _ | exact Tw.zero | apply Tw.add | apply Tw.mul | apply Tw.neg | apply Tw.sub | apply Tw.r1 | apply Tw.inv | apply Tw.out | apply Tw.ratio1 | apply Tw.pow | exact Tw.self (by assumption))) _) ?_; clear hS hM; intro a w hS hM
  refine s_val hS (by decide) rfl rfl (r_move hS rfl) ?_; clear hS; intro a hS
  refine s_val hS (by decide) rfl rfl (r_extract hS rfl rfl) ?_; clear hS; intro a hS
  refine s_val hS (by decide) rfl rfl (r_extract hS rfl rfl) ?_; clear hS; intro a hS
  refine s_alloc hS hM (by decide) zero27 ?_; clear hS hM; intro a b8 w hb8 hS hM
  refine s_storeAll hS hM rfl rfl (j := 0) rfl sz27 cells_len cells_len cU_one ?_; clear hS hM; intro a w hS hM
  refine s_val hS (by decide) rfl rfl (r_assign hS rfl) ?_; clear hS; intro a hS
  refine s_nil ?_
  refine k_seq ?_
  refine c_seq ?_
  refine c_seq ?_
  cases hq : (ratioX (limb51 (natB f 32)) (limb51 (natB g 32))).2
  · have hq2 := (Tw.ratio (Tw.read f) (Tw.read g)).2.symm.trans hq; rw [hq] at hS
    refine c_region ?_
    refine s_val hS (by decide) rfl rfl (r_move hS rfl) ?_; clear hS; intro a hS
    refine s_val hS (by decide) rfl rfl (r_not hS rfl) ?_; clear hS; intro a hS
    refine s_val hS (by decide) rfl rfl (r_move hS rfl) ?_; clear hS; intro a hS
    refine s_valg hS (by decide) rfl rfl rfl rfl rfl (r_loadAll hS hM rfl (j := 0) rfl Try.underlying27 rfl sz27 cells_len) ?_; clear hS; intro a hS
    refine s_pureg hS hM (by decide) rfl rfl rfl rfl (odd_f (by repeat first | assumption | exact Tw.read _ | exact Tw.small _ | exact Tw.zero | apply Tw.add | apply Tw.mul | apply Tw.neg | apply Tw.sub | apply Tw.r1 | apply Tw.inv | apply Tw.out | apply Tw.ratio1 | apply Tw.pow | exact Tw.self (by assumption)) (by exact ratio_even _ _) _) ?_; clear hS hM; intro a w hS hM
    refine s_val hS (by decide) rfl rfl (r_pick hS rfl rfl) ?_; clear hS; intro a hS
    refine s_val hS (by decide) rfl rfl (r_move hS rfl) ?_; clear hS; intro a hS
    refine s_valg hS (by decide) rfl rfl rfl rfl rfl (r_move hS rfl) ?_; clear hS; intro a hS
    refine s_valg hS (by decide) rfl rfl rfl rfl rfl (r_not hS rfl) ?_; clear hS; intro a hS
    refine s_valg hS (by decide) rfl rfl rfl rfl rfl (r_move hS rfl) ?_; clear hS; intro a hS
    refine s_valg hS (by decide) rfl rfl rfl rfl rfl (r_loadAll hS hM rfl (j := 0) rfl Try.underlying27 rfl sz27 cells_len) ?_; clear hS; intro a hS
    refine s_pureg hS hM (by decide) rfl rfl rfl rfl (iszero_e (by repeat first | assumption | exact Tw.read _ | exact Tw.small _ | exact Tw.zero | apply Tw.add | apply Tw.mul | apply Tw.neg | apply Tw.sub | apply Tw.r1 | apply Tw.inv | apply Tw.out | apply Tw.ratio1 | apply Tw.pow | exact Tw.self (by assumption)) (by exact ratio_no hq2) _) ?_; clear hS hM; intro a w hS hM
    refine s_valg hS (by decide) rfl rfl rfl rfl rfl (r_not hS rfl) ?_; clear hS; intro a hS
    refine s_valg hS (by decide) rfl rfl rfl rfl rfl (r_pick hS rfl rfl) ?_; clear hS; intro a hS
    refine s_val hS (by decide) rfl rfl (r_pick hS rfl rfl) ?_; clear hS; intro a hS
    refine s_nil ?_
    refine k_seq ?_
    refine c_false hS rfl rfl ?_
    refine c_skip ?_
    refine k_seq ?_
    refine c_seq ?_
    refine c_seq ?_
    refine c_region ?_
    refine s_val hS (by decide) rfl rfl (r_loadAll hS hM rfl (j := 1) rfl Try.underlying27 rfl sz27 cells_len) ?_; clear hS; intro a hS
    refine s_pure hS hM (by decide) rfl (iszero_ok _ (by first | exact limb51_ok _ | exact Tw.ok (by repeat first | assumption | exact Tw.read _ | exact Tw.small _ | exact Tw.zero | apply Tw.add | apply Tw.mul | apply Tw.neg | apply Tw.sub | apply Tw.r1 | apply Tw.inv | apply Tw.out | apply Tw.ratio1 | apply Tw.pow | exact Tw.self (by assumption))) _) ?_; clear hS hM; intro a w hS hM
    refine s_nil ?_
    refine k_seq ?_
    refine c_cond hS rfl (fun hc => ?_) (fun hc => ?_)
    · have h09 : val (limb51 (natB g 32)) % pP = 0 := (by simpa using hc); have h0 : (natB g 32 % 2 ^ 255 % pP) = 0 := (by have h9 := h09; rwa [(Tw.read g).eq] at h9); have hz := hq; rw [ratioX_yes h09] at hz
      refine c_seq ?_
      refine c_region ?_
      refine s_val hS (by decide) rfl rfl (r_move hS rfl) ?_; clear hS; intro a hS
      refine s_val hS (by decide) rfl rfl (r_loadAll hS hM rfl (j := 2) rfl Try.underlying27 rfl sz27 cells_len) ?_; clear hS; intro a hS
      refine s_pure hS hM (by decide) rfl (iszero_ok _ (by first | exact limb51_ok _ | exact Tw.ok (by repeat first | assumption | exact Tw.read _ | exact Tw.small _ | exact Tw.zero | apply Tw.add | apply Tw.mul | apply Tw.neg | apply Tw.sub | apply Tw.r1 | apply Tw.inv | apply Tw.out | apply Tw.ratio1 | apply Tw.pow | exact Tw.self (by assumption))) _) ?_; clear hS hM; intro a w hS hM
      refine s_val hS (by decide) rfl rfl (r_eqbt hS rfl rfl Try.underlying4 hz.symm) ?_; clear hS; intro a hS
      refine s_val hS (by decide) rfl rfl (r_move hS rfl) ?_; clear hS; intro a hS
      refine s_valg hS (by decide) rfl rfl rfl rfl rfl (r_loadAll hS hM rfl (j := 0) rfl Try.underlying27 rfl sz27 cells_len) ?_; clear hS; intro a hS
      refine s_pureg hS hM (by decide) rfl rfl rfl rfl (iszero_e (by repeat first | assumption | exact Tw.read _ | exact Tw.small _ | exact Tw.zero | apply Tw.add | apply Tw.mul | apply Tw.neg | apply Tw.sub | apply Tw.r1 | apply Tw.inv | apply Tw.out | apply Tw.ratio1 | apply Tw.pow | exact Tw.self (by assumption)) (by rw [ratioN_yes h0]) _) ?_; clear hS hM; intro a w hS hM
      refine s_val hS (by decide) rfl rfl (r_pick hS rfl rfl) ?_; clear hS; intro a hS
      refine s_val hS (by decide) rfl rfl (r_assign hS rfl) ?_; clear hS; intro a hS
      refine s_nil ?_
      refine k_seq ?_
      refine c_ret ?_
      refine k_thenr ?_
      exact k_res1 hS rfl (RV.tmp rfl) ⟨rfl, hM.done ⟨hb8, hb7, hb6, hb3, hb2, trivial⟩⟩
    · have h09 : ¬ val (limb51 (natB g 32)) % pP = 0 := (by simpa using hc); have h0 : ¬ (natB g 32 % 2 ^ 255 % pP) = 0 := (by have h9 := h09; rwa [(Tw.read g).eq] at h9); have h0p : 0 < (natB g 32 % 2 ^ 255 % pP) := Nat.pos_of_ne_zero h0; have hr1 : (ratioX (feMul (feMul (limb51 (natB f 32)) (limb51 (natB f 32))) (limb51 (natB g 32))) (limb51 (natB g 32))).2 = true := (Tw.ratio (((Tw.read f).mul (Tw.read f)).mul (Tw.read g)) (Tw.read g)).2.trans (ratio_square h0p (Nat.mod_lt _ pP_pos) (Nat.mod_lt _ pP_pos)).1
      refine c_skip ?_
      refine k_seq ?_
      refine c_seq ?_
      refine c_vplan 11 (AL w0 9 10 27 (cU 5 (fun _ => 0)) (cU 5 (ratioX (feMul (feMul (limb51 (natB f 32)) (limb51 (natB f 32))) (limb51 (natB g 32))) (limb51 (natB g 32))).1) [⟨b8, 27, cU 5 (ratioX (limb51 (natB f 32)) (limb51 (natB g 32))).1⟩, ⟨b7, 27, cU 5 (limb51 (natB g 32))⟩, ⟨b6, 27, cU 5 (limb51 (natB f 32))⟩, ⟨b3, 22, cB 32 g⟩, ⟨b2, 22, cB 32 f⟩]) [(6, ptr b6 0), (7, ptr b7 0), (8, ptr b8 0), (9, .bool false)] (fun i V => match i with | 0 => V 0 = .agg (cU 5 (limb51 (natB f 32))).toArray | 1 => V 1 = .agg (cU 5 (feMul (limb51 (natB f 32)) (limb51 (natB f 32)))).toArray | 2 => V 2 = .agg (cU 5 (limb51 (natB g 32))).toArray | 3 => V 3 = .agg (cU 5 (feMul (feMul (limb51 (natB f 32)) (limb51 (natB f 32))) (limb51 (natB g 32)))).toArray | 4 => V 4 = .agg (cU 5 (limb51 (natB g 32))).toArray | 5 => V 5 = .tuple #[.agg (cU 5 (ratioX (feMul (feMul (limb51 (natB f 32)) (limb51 (natB f 32))) (limb51 (natB g 32))) (limb51 (natB g 32))).1).toArray, .bool (ratioX (feMul (feMul (limb51 (natB f 32)) (limb51 (natB f 32))) (limb51 (natB g 32))) (limb51 (natB g 32))).2] | 6 => V 6 = .tuple #[.agg (cU 5 (ratioX (feMul (feMul (limb51 (natB f 32)) (limb51 (natB f 32))) (limb51 (natB g 32))) (limb51 (natB g 32))).1).toArray, .bool (ratioX (feMul (feMul (limb51 (natB f 32)) (limb51 (natB f 32))) (limb51 (natB g 32))) (limb51 (natB g 32))).2] | 7 => V 7 = .agg (cU 5 (ratioX (feMul (feMul (limb51 (natB f 32)) (limb51 (natB f 32))) (limb51 (natB g 32))) (limb51 (natB g 32))).1).toArray | 8 => V 8 = .bool (ratioX (feMul (feMul (limb51 (natB f 32)) (limb51 (natB f 32))) (limb51 (natB g 32))) (limb51 (natB g 32))).2 | 9 => ∃ b, w0.heap.size ≤ b ∧ V 9 = ptr b 0 | _ => True) (by kernel_rfl) (by kernel_rfl) hS ⟨rfl, rfl, rfl, rfl, trivial⟩ (AL.start (hM.drawn _)) ?_ ?_
      · clear hS hM
        refine ⟨?_, ?_, ?_, ?_, ?_, ?_, ?_, ?_, ?_, ?_, ?_, trivial⟩
        · intro S V a w hp hs hi hR hS hM
          replace hS := hS.to [(6, ptr b6 0)] ⟨rfl, trivial⟩
          have hM0 := hM; replace hM := hM0.low
          exact vy_val rfl (r_loadAll hS hM rfl (j := 2) rfl Try.underlying27 rfl sz27 cells_len) ⟨rfl, hM0.keep rfl rfl⟩
        · intro S V a w hp hs hi hR hS hM
          have h0 : V 0 = .agg (cU 5 (limb51 (natB f 32))).toArray := hR 0 rfl
          replace hS := hS.to [(49, .agg (cU 5 (limb51 (natB f 32))).toArray)] ⟨congrArg some h0, trivial⟩
          have hM0 := hM; replace hM := hM0.low
          exact vy_pureA hS rfl (square_ok _ _) fun w' hm => ⟨rfl, (hM0.after hm).keep rfl rfl⟩
        · intro S V a w hp hs hi hR hS hM
          replace hS := hS.to [(7, ptr b7 0)] ⟨rfl, trivial⟩
          have hM0 := hM; replace hM := hM0.low
          exact vy_val rfl (r_loadAll hS hM rfl (j := 1) rfl Try.underlying27 rfl sz27 cells_len) ⟨rfl, hM0.keep rfl rfl⟩
        · intro S V a w hp hs hi hR hS hM
          have h1 : V 1 = .agg (cU 5 (feMul (limb51 (natB f 32)) (limb51 (natB f 32)))).toArray := hR 1 rfl
          have h2 : V 2 = .agg (cU 5 (limb51 (natB g 32))).toArray := hR 2 rfl
          replace hS := hS.to [(50, .agg (cU 5 (feMul (limb51 (natB f 32)) (limb51 (natB f 32)))).toArray), (51, .agg (cU 5 (limb51 (natB g 32))).toArray)] ⟨congrArg some h1, congrArg some h2, trivial⟩
          have hM0 := hM; replace hM := hM0.low
          exact vy_pureA hS rfl (mul_ok _ _ _) fun w' hm => ⟨rfl, (hM0.after hm).keep rfl rfl⟩
        · intro S V a w hp hs hi hR hS hM
          replace hS := hS.to [(7, ptr b7 0)] ⟨rfl, trivial⟩
          have hM0 := hM; replace hM := hM0.low
          exact vy_val rfl (r_loadAll hS hM rfl (j := 1) rfl Try.underlying27 rfl sz27 cells_len) ⟨rfl, hM0.keep rfl rfl⟩
        · intro S V a w hp hs hi hR hS hM
          have h3 : V 3 = .agg (cU 5 (feMul (feMul (limb51 (natB f 32)) (limb51 (natB f 32))) (limb51 (natB g 32)))).toArray := hR 3 rfl
          have h4 : V 4 = .agg (cU 5 (limb51 (natB g 32))).toArray := hR 4 rfl
          replace hS := hS.to [(52, .agg (cU 5 (feMul (feMul (limb51 (natB f 32)) (limb51 (natB f 32))) (limb51 (natB g 32)))).toArray), (53, .agg (cU 5 (limb51 (natB g 32))).toArray)] ⟨congrArg some h3, congrArg some h4, trivial⟩
          have hM0 := hM; replace hM := hM0.low
          exact vy_pureA hS rfl (ratio_ok _ _ (by first | exact limb51_ok _ | exact Tw.ok (by repeat first | assumption | exact Tw.read _ | exact Tw.small _ | exact Tw.zero | apply Tw.add | apply Tw.mul | apply Tw.neg | apply Tw.sub | apply Tw.r1 | apply Tw.inv | apply Tw.out | apply Tw.ratio1 | apply Tw.pow | exact Tw.self (by assumption))) (by first | exact limb51_ok _ | exact Tw.ok (by repeat first | assumption | exact Tw.read _ | exact Tw.small _ | exact Tw.zero | apply Tw.add | apply Tw.mul | apply Tw.neg | apply Tw.sub | apply Tw.r1 | apply Tw.inv | apply Tw.out | apply Tw.ratio1 | apply Tw.pow | exact Tw.self (by assumption))) _) fun w' hm => ⟨rfl, (hM0.after hm).keep rfl rfl⟩
        · intro S V a w hp hs hi hR hS hM
          have h5 : V 5 = .tuple #[.agg (cU 5 (ratioX (feMul (feMul (limb51 (natB f 32)) (limb51 (natB f 32))) (limb51 (natB g 32))) (limb51 (natB g 32))).1).toArray, .bool (ratioX (feMul (feMul (limb51 (natB f 32)) (limb51 (natB f 32))) (limb51 (natB g 32))) (limb51 (natB g 32))).2] := hR 5 rfl
          replace hS := hS.to [(54, .tuple #[.agg (cU 5 (ratioX (feMul (feMul (limb51 (natB f 32)) (limb51 (natB f 32))) (limb51 (natB g 32))) (limb51 (natB g 32))).1).toArray, .bool (ratioX (feMul (feMul (limb51 (natB f 32)) (limb51 (natB f 32))) (limb51 (natB g 32))) (limb51 (natB g 32))).2])] ⟨congrArg some h5, trivial⟩
          have hM0 := hM; replace hM := hM0.low
          exact vy_val rfl (r_move hS rfl) ⟨rfl, hM0.keep rfl rfl⟩
        · intro S V a w hp hs hi hR hS hM
          have h6 : V 6 = .tuple #[.agg (cU 5 (ratioX (feMul (feMul (limb51 (natB f 32)) (limb51 (natB f 32))) (limb51 (natB g 32))) (limb51 (natB g 32))).1).toArray, .bool (ratioX (feMul (feMul (limb51 (natB f 32)) (limb51 (natB f 32))) (limb51 (natB g 32))) (limb51 (natB g 32))).2] := hR 6 rfl
          replace hS := hS.to [(48, .tuple #[.agg (cU 5 (ratioX (feMul (feMul (limb51 (natB f 32)) (limb51 (natB f 32))) (limb51 (natB g 32))) (limb51 (natB g 32))).1).toArray, .bool (ratioX (feMul (feMul (limb51 (natB f 32)) (limb51 (natB f 32))) (limb51 (natB g 32))) (limb51 (natB g 32))).2])] ⟨congrArg some h6, trivial⟩
          have hM0 := hM; replace hM := hM0.low
          exact vy_val rfl (r_extract hS rfl rfl) ⟨rfl, hM0.keep rfl rfl⟩
        · intro S V a w hp hs hi hR hS hM
          have h6 : V 6 = .tuple #[.agg (cU 5 (ratioX (feMul (feMul (limb51 (natB f 32)) (limb51 (natB f 32))) (limb51 (natB g 32))) (limb51 (natB g 32))).1).toArray, .bool (ratioX (feMul (feMul (limb51 (natB f 32)) (limb51 (natB f 32))) (limb51 (natB g 32))) (limb51 (natB g 32))).2] := hR 6 rfl
          replace hS := hS.to [(48, .tuple #[.agg (cU 5 (ratioX (feMul (feMul (limb51 (natB f 32)) (limb51 (natB f 32))) (limb51 (natB g 32))) (limb51 (natB g 32))).1).toArray, .bool (ratioX (feMul (feMul (limb51 (natB f 32)) (limb51 (natB f 32))) (limb51 (natB g 32))) (limb51 (natB g 32))).2])] ⟨congrArg some h6, trivial⟩
          have hM0 := hM; replace hM := hM0.low
          exact vy_val rfl (r_extract hS rfl rfl) ⟨rfl, hM0.keep rfl rfl⟩
        · intro S V a w hp hs hi hR hS hM
          exact vy_alloc zero27 hM.low fun b w' hb hM' => ⟨⟨b, hb, rfl⟩, AL.made (hs 10 rfl) rfl hb hM'⟩
        · intro S V a w hp hs hi hR hS hM
          have h7 : V 7 = .agg (cU 5 (ratioX (feMul (feMul (limb51 (natB f 32)) (limb51 (natB f 32))) (limb51 (natB g 32))) (limb51 (natB g 32))).1).toArray := hR 7 rfl
          obtain ⟨b, hb, h9⟩ : ∃ b, w0.heap.size ≤ b ∧ V 9 = ptr b 0 := hR 9 rfl
          replace hS := hS.to [(55, .agg (cU 5 (ratioX (feMul (feMul (limb51 (natB f 32)) (limb51 (natB f 32))) (limb51 (natB g 32))) (limb51 (natB g 32))).1).toArray), (10, ptr b 0)] ⟨congrArg some h7, congrArg some h9, trivial⟩
          have hM1 := hM.ahead (hp 9 rfl) hi; rw [h9] at hM1
          exact vy_storeAll hS hM1 rfl rfl (j := 0) rfl sz27 cells_len cells_len cU_one fun w' hM' => ⟨trivial, hM.wrote (hp 9 rfl) rfl (by rw [h9]; exact hM')⟩
      clear hS hM; intro V a w hR hS hM
      obtain ⟨b10, hb10, v9⟩ : ∃ b, w0.heap.size ≤ b ∧ V 9 = ptr b 0 := hR 9 (by decide)
      have v0 : V 0 = .agg (cU 5 (limb51 (natB f 32))).toArray := hR 0 (by decide)
      have v1 : V 1 = .agg (cU 5 (feMul (limb51 (natB f 32)) (limb51 (natB f 32)))).toArray := hR 1 (by decide)
      have v2 : V 2 = .agg (cU 5 (limb51 (natB g 32))).toArray := hR 2 (by decide)
      have v3 : V 3 = .agg (cU 5 (feMul (feMul (limb51 (natB f 32)) (limb51 (natB f 32))) (limb51 (natB g 32)))).toArray := hR 3 (by decide)
      have v4 : V 4 = .agg (cU 5 (limb51 (natB g 32))).toArray := hR 4 (by decide)
      have v5 : V 5 = .tuple #[.agg (cU 5 (ratioX (feMul (feMul (limb51 (natB f 32)) (limb51 (natB f 32))) (limb51 (natB g 32))) (limb51 (natB g 32))).1).toArray, .bool (ratioX (feMul (feMul (limb51 (natB f 32)) (limb51 (natB f 32))) (limb51 (natB g 32))) (limb51 (natB g 32))).2] := hR 5 (by decide)
      have v6 : V 6 = .tuple #[.agg (cU 5 (ratioX (feMul (feMul (limb51 (natB f 32)) (limb51 (natB f 32))) (limb51 (natB g 32))) (limb51 (natB g 32))).1).toArray, .bool (ratioX (feMul (feMul (limb51 (natB f 32)) (limb51 (natB f 32))) (limb51 (natB g 32))) (limb51 (natB g 32))).2] := hR 6 (by decide)
      have v7 : V 7 = .agg (cU 5 (ratioX (feMul (feMul (limb51 (natB f 32)) (limb51 (natB f 32))) (limb51 (natB g 32))) (limb51 (natB g 32))).1).toArray := hR 7 (by decide)
      have v8 : V 8 = .bool (ratioX (feMul (feMul (limb51 (natB f 32)) (limb51 (natB f 32))) (limb51 (natB g 32))) (limb51 (natB g 32))).2 := hR 8 (by decide)
      replace hS := hS.to [(10, ptr b10 0), (49, .agg (cU 5 (limb51 (natB f 32))).toArray), (50, .agg (cU 5 (feMul (limb51 (natB f 32)) (limb51 (natB f 32)))).toArray), (51, .agg (cU 5 (limb51 (natB g 32))).toArray), (52, .agg (cU 5 (feMul (feMul (limb51 (natB f 32)) (limb51 (natB f 32))) (limb51 (natB g 32)))).toArray), (53, .agg (cU 5 (limb51 (natB g 32))).toArray), (54, .tuple #[.agg (cU 5 (ratioX (feMul (feMul (limb51 (natB f 32)) (limb51 (natB f 32))) (limb51 (natB g 32))) (limb51 (natB g 32))).1).toArray, .bool (ratioX (feMul (feMul (limb51 (natB f 32)) (limb51 (natB f 32))) (limb51 (natB g 32))) (limb51 (natB g 32))).2]), (48, .tuple #[.agg (cU 5 (ratioX (feMul (feMul (limb51 (natB f 32)) (limb51 (natB f 32))) (limb51 (natB g 32))) (limb51 (natB g 32))).1).toArray, .bool (ratioX (feMul (feMul (limb51 (natB f 32)) (limb51 (natB f 32))) (limb51 (natB g 32))) (limb51 (natB g 32))).2]), (55, .agg (cU 5 (ratioX (feMul (feMul (limb51 (natB f 32)) (limb51 (natB f 32))) (limb51 (natB g 32))) (limb51 (natB g 32))).1).toArray), (56, .bool (ratioX (feMul (feMul (limb51 (natB f 32)) (limb51 (natB f 32))) (limb51 (natB g 32))) (limb51 (natB g 32))).2), (6, ptr b6 0), (7, ptr b7 0), (8, ptr b8 0), (9, .bool false)] ⟨congrArg some v9, congrArg some v0, congrArg some v1, congrArg some v2, congrArg some v3, congrArg some v4, congrArg some v5, congrArg some v6, congrArg some v7, congrArg some v8, rfl, rfl, rfl, rfl, trivial⟩
      replace hM := (hM.stop rfl rfl).2; rw [v9] at hM; replace hM : Mem w0 w (⟨b10, 27, cU 5 (ratioX (feMul (feMul (limb51 (natB f 32)) (limb51 (natB f 32))) (limb51 (natB g 32))) (limb51 (natB g 32))).1⟩ :: [⟨b8, 27, cU 5 (ratioX (limb51 (natB f 32)) (limb51 (natB g 32))).1⟩, ⟨b7, 27, cU 5 (limb51 (natB g 32))⟩, ⟨b6, 27, cU 5 (limb51 (natB f 32))⟩, ⟨b3, 22, cB 32 g⟩, ⟨b2, 22, cB 32 f⟩]) := hM
      clear hR v0 v1 v2 v3 v4 v5 v6 v7 v8 v9
      refine s_val hS (by decide) rfl rfl (r_assign hS rfl) ?_; clear hS; intro a hS
      rw [hr1] at hS
      refine s_nil ?_
      refine k_seq ?_
      refine c_seq ?_
      by_cases hA : (ratioN ((natB f 32 % 2 ^ 255 % pP) * (natB f 32 % 2 ^ 255 % pP) % pP * (natB g 32 % 2 ^ 255 % pP) % pP) (natB g 32 % 2 ^ 255 % pP)).1 = (natB f 32 % 2 ^ 255 % pP)
      · skip
        refine c_plan 25 (fun w => Mem w0 w _) [(9, _), (8, _), (7, _), (6, _), (11, _), (10, _)] (by kernel_rfl) (by kernel_rfl) hS ⟨rfl, rfl, rfl, rfl, rfl, rfl, trivial⟩ (hM.drawn _) ?_; clear hS hM
        refine p_step rfl (fun a w hS hM => y_val rfl (r_move hS rfl)) ?_
        refine p_step rfl (fun a w hS hM => y_val rfl (r_not hS rfl)) ?_
        refine p_step rfl (fun a w hS hM => y_val rfl (r_move hS rfl)) ?_
        refine p_step rfl (fun a w hS hM => y_skip hS rfl rfl rfl rfl) ?_
        refine p_step rfl (fun a w hS hM => y_skip hS rfl rfl rfl rfl) ?_
        refine p_step rfl (fun a w hS hM => y_skip hS rfl rfl rfl rfl) ?_
        refine p_step rfl (fun a w hS hM => y_skip hS rfl rfl rfl rfl) ?_
        refine p_step rfl (fun a w hS hM => y_skip hS rfl rfl rfl rfl) ?_
        refine p_step rfl (fun a w hS hM => y_skip hS rfl rfl rfl rfl) ?_
        refine p_step rfl (fun a w hS hM => y_val rfl (r_pick hS rfl rfl)) ?_
        refine p_step rfl (fun a w hS hM => y_val rfl (r_move hS rfl)) ?_
        refine p_step rfl (fun a w hS hM => y_valg hS rfl rfl rfl rfl (r_move hS rfl)) ?_
        refine p_step rfl (fun a w hS hM => y_val rfl (r_pick hS rfl rfl)) ?_
        refine p_step rfl (fun a w hS hM => y_val rfl (r_move hS rfl)) ?_
        refine p_step rfl (fun a w hS hM => y_valg hS rfl rfl rfl rfl (r_loadAll hS hM rfl (j := 0) rfl Try.underlying27 rfl sz27 cells_len)) ?_
        refine p_step rfl (fun a w hS hM => y_valg hS rfl rfl rfl rfl (r_loadAll hS hM rfl (j := 3) rfl Try.underlying27 rfl sz27 cells_len)) ?_
        refine p_step rfl (fun a w hS hM => y_callg (by kernel_rfl) hS rfl rfl rfl rfl ((equal_y (by repeat first | assumption | exact Tw.read _ | exact Tw.small _ | exact Tw.zero | apply Tw.add | apply Tw.mul | apply Tw.neg | apply Tw.sub | apply Tw.r1 | apply Tw.inv | apply Tw.out | apply Tw.ratio1 | apply Tw.pow | exact Tw.self (by assumption)) (by repeat first | assumption | exact Tw.read _ | exact Tw.small _ | exact Tw.zero | apply Tw.add | apply Tw.mul | apply Tw.neg | apply Tw.sub | apply Tw.r1 | apply Tw.inv | apply Tw.out | apply Tw.ratio1 | apply Tw.pow | exact Tw.self (by assumption)) (by exact hA) _).mem hM)) ?_
        refine p_step rfl (fun a w hS hM => y_valg hS rfl rfl rfl rfl (r_move hS rfl)) ?_
        refine p_step rfl (fun a w hS hM => y_skip hS rfl rfl rfl rfl) ?_
        refine p_step rfl (fun a w hS hM => y_skip hS rfl rfl rfl rfl) ?_
        refine p_step rfl (fun a w hS hM => y_skip hS rfl rfl rfl rfl) ?_
        refine p_step rfl (fun a w hS hM => y_skip hS rfl rfl rfl rfl) ?_
        refine p_step rfl (fun a w hS hM => y_valg hS rfl rfl rfl rfl (r_pick hS rfl rfl)) ?_
        refine p_step rfl (fun a w hS hM => y_val rfl (r_pick hS rfl rfl)) ?_
        refine p_step rfl (fun a w hS hM => y_val rfl (r_assign hS rfl)) ?_
        refine p_nil rfl ?_; intro a w hS hM
        refine s_nil ?_
        refine k_seq ?_
        refine c_ret ?_
        exact k_res1 hS rfl (RV.tmp rfl) ⟨rfl, hM.done ⟨hb10, hb8, hb7, hb6, hb3, hb2, trivial⟩⟩
      · skip
        refine c_plan 25 (fun w => Mem w0 w _) [(9, _), (8, _), (7, _), (6, _), (11, _), (10, _)] (by kernel_rfl) (by kernel_rfl) hS ⟨rfl, rfl, rfl, rfl, rfl, rfl, trivial⟩ (hM.drawn _) ?_; clear hS hM
        refine p_step rfl (fun a w hS hM => y_val rfl (r_move hS rfl)) ?_
        refine p_step rfl (fun a w hS hM => y_val rfl (r_not hS rfl)) ?_
        refine p_step rfl (fun a w hS hM => y_val rfl (r_move hS rfl)) ?_
        refine p_step rfl (fun a w hS hM => y_skip hS rfl rfl rfl rfl) ?_
        refine p_step rfl (fun a w hS hM => y_skip hS rfl rfl rfl rfl) ?_
        refine p_step rfl (fun a w hS hM => y_skip hS rfl rfl rfl rfl) ?_
        refine p_step rfl (fun a w hS hM => y_skip hS rfl rfl rfl rfl) ?_
        refine p_step rfl (fun a w hS hM => y_skip hS rfl rfl rfl rfl) ?_
        refine p_step rfl (fun a w hS hM => y_skip hS rfl rfl rfl rfl) ?_
        refine p_step rfl (fun a w hS hM => y_val rfl (r_pick hS rfl rfl)) ?_
        refine p_step rfl (fun a w hS hM => y_val rfl (r_move hS rfl)) ?_
        refine p_step rfl (fun a w hS hM => y_valg hS rfl rfl rfl rfl (r_move hS rfl)) ?_
        refine p_step rfl (fun a w hS hM => y_val rfl (r_pick hS rfl rfl)) ?_
        refine p_step rfl (fun a w hS hM => y_val rfl (r_move hS rfl)) ?_
        refine p_step rfl (fun a w hS hM => y_valg hS rfl rfl rfl rfl (r_loadAll hS hM rfl (j := 0) rfl Try.underlying27 rfl sz27 cells_len)) ?_
        refine p_step rfl (fun a w hS hM => y_valg hS rfl rfl rfl rfl (r_loadAll hS hM rfl (j := 3) rfl Try.underlying27 rfl sz27 cells_len)) ?_
        refine p_step rfl (fun a w hS hM => y_callg (by kernel_rfl) hS rfl rfl rfl rfl ((equal_n (by repeat first | assumption | exact Tw.read _ | exact Tw.small _ | exact Tw.zero | apply Tw.add | apply Tw.mul | apply Tw.neg | apply Tw.sub | apply Tw.r1 | apply Tw.inv | apply Tw.out | apply Tw.ratio1 | apply Tw.pow | exact Tw.self (by assumption)) (by repeat first | assumption | exact Tw.read _ | exact Tw.small _ | exact Tw.zero | apply Tw.add | apply Tw.mul | apply Tw.neg | apply Tw.sub | apply Tw.r1 | apply Tw.inv | apply Tw.out | apply Tw.ratio1 | apply Tw.pow | exact Tw.self (by assumption)) (by exact hA) _).mem hM)) ?_
        refine p_step rfl (fun a w hS hM => y_valg hS rfl rfl rfl rfl (r_move hS rfl)) ?_
        refine p_step rfl (fun a w hS hM => y_valg hS rfl rfl rfl rfl (r_loadAll hS hM rfl (j := 0) rfl Try.underlying27 rfl sz27 cells_len)) ?_
        refine p_step rfl (fun a w hS hM => y_valg hS rfl rfl rfl rfl (r_loadAll hS hM rfl (j := 3) rfl Try.underlying27 rfl sz27 cells_len)) ?_
        refine p_step rfl (fun a w hS hM => y_callg (by kernel_rfl) hS rfl rfl rfl rfl ((neg_ok _ _).mem hM)) ?_
        refine p_step rfl (fun a w hS hM => y_callg (by kernel_rfl) hS rfl rfl rfl rfl ((equal_y (by repeat first | assumption | exact Tw.read _ | exact Tw.small _ | exact Tw.zero | apply Tw.add | apply Tw.mul | apply Tw.neg | apply Tw.sub | apply Tw.r1 | apply Tw.inv | apply Tw.out | apply Tw.ratio1 | apply Tw.pow | exact Tw.self (by assumption)) (by repeat first | assumption | exact Tw.read _ | exact Tw.small _ | exact Tw.zero | apply Tw.add | apply Tw.mul | apply Tw.neg | apply Tw.sub | apply Tw.r1 | apply Tw.inv | apply Tw.out | apply Tw.ratio1 | apply Tw.pow | exact Tw.self (by assumption)) (by exact (ratio_square h0p (Nat.mod_lt _ pP_pos) (Nat.mod_lt _ pP_pos)).2.resolve_left hA) _).mem hM)) ?_
        refine p_step rfl (fun a w hS hM => y_valg hS rfl rfl rfl rfl (r_pick hS rfl rfl)) ?_
        refine p_step rfl (fun a w hS hM => y_val rfl (r_pick hS rfl rfl)) ?_
        refine p_step rfl (fun a w hS hM => y_val rfl (r_assign hS rfl)) ?_
        refine p_nil rfl ?_; intro a w hS hM
        refine s_nil ?_
        refine k_seq ?_
        refine c_ret ?_
        exact k_res1 hS rfl (RV.tmp rfl) ⟨rfl, hM.done ⟨hb10, hb8, hb7, hb6, hb3, hb2, trivial⟩⟩
  · have hq2 := (Tw.ratio (Tw.read f) (Tw.read g)).2.symm.trans hq; rw [hq] at hS
    refine c_region ?_
    refine s_val hS (by decide) rfl rfl (r_move hS rfl) ?_; clear hS; intro a hS
    refine s_val hS (by decide) rfl rfl (r_not hS rfl) ?_; clear hS; intro a hS
    refine s_val hS (by decide) rfl rfl (r_move hS rfl) ?_; clear hS; intro a hS
    refine s_valg hS (by decide) rfl rfl rfl rfl rfl (r_loadAll hS hM rfl (j := 0) rfl Try.underlying27 rfl sz27 cells_len) ?_; clear hS; intro a hS
    refine s_pureg hS hM (by decide) rfl rfl rfl rfl (odd_f (by repeat first | assumption | exact Tw.read _ | exact Tw.small _ | exact Tw.zero | apply Tw.add | apply Tw.mul | apply Tw.neg | apply Tw.sub | apply Tw.r1 | apply Tw.inv | apply Tw.out | apply Tw.ratio1 | apply Tw.pow | exact Tw.self (by assumption)) (by exact ratio_even _ _) _) ?_; clear hS hM; intro a w hS hM
    refine s_val hS (by decide) rfl rfl (r_pick hS rfl rfl) ?_; clear hS; intro a hS
    refine s_val hS (by decide) rfl rfl (r_move hS rfl) ?_; clear hS; intro a hS
    refine s_valg hS (by decide) rfl rfl rfl rfl rfl (r_move hS rfl) ?_; clear hS; intro a hS
    refine s_valg hS (by decide) rfl rfl rfl rfl rfl (r_not hS rfl) ?_; clear hS; intro a hS
    refine s_valg hS (by decide) rfl rfl rfl rfl rfl (r_move hS rfl) ?_; clear hS; intro a hS
    refine s_skip hS (by decide) rfl rfl rfl rfl rfl ?_; clear hS; intro a hS
    refine s_skip hS (by decide) rfl rfl rfl rfl rfl ?_; clear hS; intro a hS
    refine s_skip hS (by decide) rfl rfl rfl rfl rfl ?_; clear hS; intro a hS
    refine s_valg hS (by decide) rfl rfl rfl rfl rfl (r_pick hS rfl rfl) ?_; clear hS; intro a hS
    refine s_val hS (by decide) rfl rfl (r_pick hS rfl rfl) ?_; clear hS; intro a hS
    refine s_nil ?_
    refine k_seq ?_
    refine c_false hS rfl rfl ?_
    refine c_skip ?_
    refine k_seq ?_
    refine c_seq ?_
    refine c_seq ?_
    refine c_region ?_
    refine s_val hS (by decide) rfl rfl (r_loadAll hS hM rfl (j := 1) rfl Try.underlying27 rfl sz27 cells_len) ?_; clear hS; intro a hS
    refine s_pure hS hM (by decide) rfl (iszero_ok _ (by first | exact limb51_ok _ | exact Tw.ok (by repeat first | assumption | exact Tw.read _ | exact Tw.small _ | exact Tw.zero | apply Tw.add | apply Tw.mul | apply Tw.neg | apply Tw.sub | apply Tw.r1 | apply Tw.inv | apply Tw.out | apply Tw.ratio1 | apply Tw.pow | exact Tw.self (by assumption))) _) ?_; clear hS hM; intro a w hS hM
    refine s_nil ?_
    refine k_seq ?_
    refine c_cond hS rfl (fun hc => ?_) (fun hc => ?_)
    · have h09 : val (limb51 (natB g 32)) % pP = 0 := (by simpa using hc); have h0 : (natB g 32 % 2 ^ 255 % pP) = 0 := (by have h9 := h09; rwa [(Tw.read g).eq] at h9); have hz := hq; rw [ratioX_yes h09] at hz
      refine c_seq ?_
      refine c_region ?_
      refine s_val hS (by decide) rfl rfl (r_move hS rfl) ?_; clear hS; intro a hS
      refine s_val hS (by decide) rfl rfl (r_loadAll hS hM rfl (j := 2) rfl Try.underlying27 rfl sz27 cells_len) ?_; clear hS; intro a hS
      refine s_pure hS hM (by decide) rfl (iszero_ok _ (by first | exact limb51_ok _ | exact Tw.ok (by repeat first | assumption | exact Tw.read _ | exact Tw.small _ | exact Tw.zero | apply Tw.add | apply Tw.mul | apply Tw.neg | apply Tw.sub | apply Tw.r1 | apply Tw.inv | apply Tw.out | apply Tw.ratio1 | apply Tw.pow | exact Tw.self (by assumption))) _) ?_; clear hS hM; intro a w hS hM
      refine s_val hS (by decide) rfl rfl (r_eqbt hS rfl rfl Try.underlying4 hz.symm) ?_; clear hS; intro a hS
      refine s_val hS (by decide) rfl rfl (r_move hS rfl) ?_; clear hS; intro a hS
      refine s_valg hS (by decide) rfl rfl rfl rfl rfl (r_loadAll hS hM rfl (j := 0) rfl Try.underlying27 rfl sz27 cells_len) ?_; clear hS; intro a hS
      refine s_pureg hS hM (by decide) rfl rfl rfl rfl (iszero_e (by repeat first | assumption | exact Tw.read _ | exact Tw.small _ | exact Tw.zero | apply Tw.add | apply Tw.mul | apply Tw.neg | apply Tw.sub | apply Tw.r1 | apply Tw.inv | apply Tw.out | apply Tw.ratio1 | apply Tw.pow | exact Tw.self (by assumption)) (by rw [ratioN_yes h0]) _) ?_; clear hS hM; intro a w hS hM
      refine s_val hS (by decide) rfl rfl (r_pick hS rfl rfl) ?_; clear hS; intro a hS
      refine s_val hS (by decide) rfl rfl (r_assign hS rfl) ?_; clear hS; intro a hS
      refine s_nil ?_
      refine k_seq ?_
      refine c_ret ?_
      refine k_thenr ?_
      exact k_res1 hS rfl (RV.tmp rfl) ⟨rfl, hM.done ⟨hb8, hb7, hb6, hb3, hb2, trivial⟩⟩
    · have h09 : ¬ val (limb51 (natB g 32)) % pP = 0 := (by simpa using hc); have h0 : ¬ (natB g 32 % 2 ^ 255 % pP) = 0 := (by have h9 := h09; rwa [(Tw.read g).eq] at h9); have h0p : 0 < (natB g 32 % 2 ^ 255 % pP) := Nat.pos_of_ne_zero h0; have hr1 : (ratioX (feMul (feMul (limb51 (natB f 32)) (limb51 (natB f 32))) (limb51 (natB g 32))) (limb51 (natB g 32))).2 = true := (Tw.ratio (((Tw.read f).mul (Tw.read f)).mul (Tw.read g)) (Tw.read g)).2.trans (ratio_square h0p (Nat.mod_lt _ pP_pos) (Nat.mod_lt _ pP_pos)).1
      refine c_skip ?_
      refine k_seq ?_
      refine c_seq ?_
      refine c_vplan 11 (AL w0 9 10 27 (cU 5 (fun _ => 0)) (cU 5 (ratioX (feMul (feMul (limb51 (natB f 32)) (limb51 (natB f 32))) (limb51 (natB g 32))) (limb51 (natB g 32))).1) [⟨b8, 27, cU 5 (ratioX (limb51 (natB f 32)) (limb51 (natB g 32))).1⟩, ⟨b7, 27, cU 5 (limb51 (natB g 32))⟩, ⟨b6, 27, cU 5 (limb51 (natB f 32))⟩, ⟨b3, 22, cB 32 g⟩, ⟨b2, 22, cB 32 f⟩]) [(6, ptr b6 0), (7, ptr b7 0), (8, ptr b8 0), (9, .bool true)] (fun i V => match i with | 0 => V 0 = .agg (cU 5 (limb51 (natB f 32))).toArray | 1 => V 1 = .agg (cU 5 (feMul (limb51 (natB f 32)) (limb51 (natB f 32)))).toArray | 2 => V 2 = .agg (cU 5 (limb51 (natB g 32))).toArray | 3 => V 3 = .agg (cU 5 (feMul (feMul (limb51 (natB f 32)) (limb51 (natB f 32))) (limb51 (natB g 32)))).toArray | 4 => V 4 = .agg (cU 5 (limb51 (natB g 32))).toArray | 5 => V 5 = .tuple #[.agg (cU 5 (ratioX (feMul (feMul (limb51 (natB f 32)) (limb51 (natB f 32))) (limb51 (natB g 32))) (limb51 (natB g 32))).1).toArray, .bool (ratioX (feMul (feMul (limb51 (natB f 32)) (limb51 (natB f 32))) (limb51 (natB g 32))) (limb51 (natB g 32))).2] | 6 => V 6 = .tuple #[.agg (cU 5 (ratioX (feMul (feMul (limb51 (natB f 32)) (limb51 (natB f 32))) (limb51 (natB g 32))) (limb51 (natB g 32))).1).toArray, .bool (ratioX (feMul (feMul (limb51 (natB f 32)) (limb51 (natB f 32))) (limb51 (natB g 32))) (limb51 (natB g 32))).2] | 7 => V 7 = .agg (cU 5 (ratioX (feMul (feMul (limb51 (natB f 32)) (limb51 (natB f 32))) (limb51 (natB g 32))) (limb51 (natB g 32))).1).toArray | 8 => V 8 = .bool (ratioX (feMul (feMul (limb51 (natB f 32)) (limb51 (natB f 32))) (limb51 (natB g 32))) (limb51 (natB g 32))).2 | 9 => ∃ b, w0.heap.size ≤ b ∧ V 9 = ptr b 0 | _ => True) (by kernel_rfl) (by kernel_rfl) hS ⟨rfl, rfl, rfl, rfl, trivial⟩ (AL.start (hM.drawn _)) ?_ ?_
      · clear hS hM
        refine ⟨?_, ?_, ?_, ?_, ?_, ?_, ?_, ?_, ?_, ?_, ?_, trivial⟩
        · intro S V a w hp hs hi hR hS hM
          replace hS := hS.to [(6, ptr b6 0)] ⟨rfl, trivial⟩
          have hM0 := hM; replace hM := hM0.low
          exact vy_val rfl (r_loadAll hS hM rfl (j := 2) rfl Try.underlying27 rfl sz27 cells_len) ⟨rfl, hM0.keep rfl rfl⟩
        · intro S V a w hp hs hi hR hS hM
          have h0 : V 0 = .agg (cU 5 (limb51 (natB f 32))).toArray := hR 0 rfl
          replace hS := hS.to [(49, .agg (cU 5 (limb51 (natB f 32))).toArray)] ⟨congrArg some h0, trivial⟩
          have hM0 := hM; replace hM := hM0.low
          exact vy_pureA hS rfl (square_ok _ _) fun w' hm => ⟨rfl, (hM0.after hm).keep rfl rfl⟩
        · intro S V a w hp hs hi hR hS hM
          replace hS := hS.to [(7, ptr b7 0)] ⟨rfl, trivial⟩
          have hM0 := hM; replace hM := hM0.low
          exact vy_val rfl (r_loadAll hS hM rfl (j := 1) rfl Try.underlying27 rfl sz27 cells_len) ⟨rfl, hM0.keep rfl rfl⟩
        · intro S V a w hp hs hi hR hS hM
          have h1 : V 1 = .agg (cU 5 (feMul (limb51 (natB f 32)) (limb51 (natB f 32)))).toArray := hR 1 rfl
          have h2 : V 2 = .agg (cU 5 (limb51 (natB g 32))).toArray := hR 2 rfl
          replace hS := hS.to [(50, .agg (cU 5 (feMul (limb51 (natB f 32)) (limb51 (natB f 32)))).toArray), (51, .agg (cU 5 (limb51 (natB g 32))).toArray)] ⟨congrArg some h1, congrArg some h2, trivial⟩
          have hM0 := hM; replace hM := hM0.low
          exact vy_pureA hS rfl (mul_ok _ _ _) fun w' hm => ⟨rfl, (hM0.after hm).keep rfl rfl⟩
        · intro S V a w hp hs hi hR hS hM
          replace hS := hS.to [(7, ptr b7 0)] ⟨rfl, trivial⟩
          have hM0 := hM; replace hM := hM0.low
          exact vy_val rfl (r_loadAll hS hM rfl (j := 1) rfl Try.underlying27 rfl sz27 cells_len) ⟨rfl, hM0.keep rfl rfl⟩
        · intro S V a w hp hs hi hR hS hM
          have h3 : V 3 = .agg (cU 5 (feMul (feMul (limb51 (natB f 32)) (limb51 (natB f 32))) (limb51 (natB g 32)))).toArray := hR 3 rfl
          have h4 : V 4 = .agg (cU 5 (limb51 (natB g 32))).toArray := hR 4 rfl
          replace hS := hS.to [(52, .agg (cU 5 (feMul (feMul (limb51 (natB f 32)) (limb51 (natB f 32))) (limb51 (natB g 32)))).toArray), (53, .agg (cU 5 (limb51 (natB g 32))).toArray)] ⟨congrArg some h3, congrArg some h4, trivial⟩
          have hM0 := hM; replace hM := hM0.low
          exact vy_pureA hS rfl (ratio_ok _ _ (by first | exact limb51_ok _ | exact Tw.ok (by repeat first | assumption | exact Tw.read _ | exact Tw.small _ | exact Tw.zero | apply Tw.add | apply Tw.mul | apply Tw.neg | apply Tw.sub | apply Tw.r1 | apply Tw.inv | apply Tw.out | apply Tw.ratio1 | apply Tw.pow | exact Tw.self (by assumption))) (by first | exact limb51_ok _ | exact Tw.ok (by repeat first | assumption | exact Tw.read _ | exact Tw.small _ | exact Tw.zero | apply Tw.add | apply Tw.mul | apply Tw.neg | apply Tw.sub | apply Tw.r1 | apply Tw.inv | apply Tw.out | apply Tw.ratio1 | apply Tw.pow | exact Tw.self (by assumption))) _) fun w' hm => ⟨rfl, (hM0.after hm).keep rfl rfl⟩
        · intro S V a w hp hs hi hR hS hM
          have h5 : V 5 = .tuple #[.agg (cU 5 (ratioX (feMul (feMul (limb51 (natB f 32)) (limb51 (natB f 32))) (limb51 (natB g 32))) (limb51 (natB g 32))).1).toArray, .bool (ratioX (feMul (feMul (limb51 (natB f 32)) (limb51 (natB f 32))) (limb51 (natB g 32))) (limb51 (natB g 32))).2] := hR 5 rfl
          replace hS := hS.to [(54, .tuple #[.agg (cU 5 (ratioX (feMul (feMul (limb51 (natB f 32)) (limb51 (natB f 32))) (limb51 (natB g 32))) (limb51 (natB g 32))).1).toArray, .bool (ratioX (feMul (feMul (limb51 (natB f 32)) (limb51 (natB f 32))) (limb51 (natB g 32))) (limb51 (natB g 32))).2])] ⟨congrArg some h5, trivial⟩
          have hM0 := hM; replace hM := hM0.low
          exact vy_val rfl (r_move hS rfl) ⟨rfl, hM0.keep rfl rfl⟩
        · intro S V a w hp hs hi hR hS hM
          have h6 : V 6 = .tuple #[.agg (cU 5 (ratioX (feMul (feMul (limb51 (natB f 32)) (limb51 (natB f 32))) (limb51 (natB g 32))) (limb51 (natB g 32))).1).toArray, .bool (ratioX (feMul (feMul (limb51 (natB f 32)) (limb51 (natB f 32))) (limb51 (natB g 32))) (limb51 (natB g 32))).2] := hR 6 rfl
          replace hS := hS.to [(48, .tuple #[.agg (cU 5 (ratioX (feMul (feMul (limb51 (natB f 32)) (limb51 (natB f 32))) (limb51 (natB g 32))) (limb51 (natB g 32))).1).toArray, .bool (ratioX (feMul (feMul (limb51 (natB f 32)) (limb51 (natB f 32))) (limb51 (natB g 32))) (limb51 (natB g 32))).2])] ⟨congrArg some h6, trivial⟩
          have hM0 := hM; replace hM := hM0.low
          exact vy_val rfl (r_extract hS rfl rfl) ⟨rfl, hM0.keep rfl rfl⟩
        · intro S V a w hp hs hi hR hS hM
          have h6 : V 6 = .tuple #[.agg (cU 5 (ratioX (feMul (feMul (limb51 (natB f 32)) (limb51 (natB f 32))) (limb51 (natB g 32))) (limb51 (natB g 32))).1).toArray, .bool (ratioX (feMul (feMul (limb51 (natB f 32)) (limb51 (natB f 32))) (limb51 (natB g 32))) (limb51 (natB g 32))).2] := hR 6 rfl
          replace hS := hS.to [(48, .tuple #[.agg (cU 5 (ratioX (feMul (feMul (limb51 (natB f 32)) (limb51 (natB f 32))) (limb51 (natB g 32))) (limb51 (natB g 32))).1).toArray, .bool (ratioX (feMul (feMul (limb51 (natB f 32)) (limb51 (natB f 32))) (limb51 (natB g 32))) (limb51 (natB g 32))).2])] ⟨congrArg some h6, trivial⟩
          have hM0 := hM; replace hM := hM0.low
          exact vy_val rfl (r_extract hS rfl rfl) ⟨rfl, hM0.keep rfl rfl⟩
        · intro S V a w hp hs hi hR hS hM
          exact vy_alloc zero27 hM.low fun b w' hb hM' => ⟨⟨b, hb, rfl⟩, AL.made (hs 10 rfl) rfl hb hM'⟩
        · intro S V a w hp hs hi hR hS hM
          have h7 : V 7 = .agg (cU 5 (ratioX (feMul (feMul (limb51 (natB f 32)) (limb51 (natB f 32))) (limb51 (natB g 32))) (limb51 (natB g 32))).1).toArray := hR 7 rfl
          obtain ⟨b, hb, h9⟩ : ∃ b, w0.heap.size ≤ b ∧ V 9 = ptr b 0 := hR 9 rfl
          replace hS := hS.to [(55, .agg (cU 5 (ratioX (feMul (feMul (limb51 (natB f 32)) (limb51 (natB f 32))) (limb51 (natB g 32))) (limb51 (natB g 32))).1).toArray), (10, ptr b 0)] ⟨congrArg some h7, congrArg some h9, trivial⟩
          have hM1 := hM.ahead (hp 9 rfl) hi; rw [h9] at hM1
          exact vy_storeAll hS hM1 rfl rfl (j := 0) rfl sz27 cells_len cells_len cU_one fun w' hM' => ⟨trivial, hM.wrote (hp 9 rfl) rfl (by rw [h9]; exact hM')⟩
      clear hS hM; intro V a w hR hS hM
      obtain ⟨b10, hb10, v9⟩ : ∃ b, w0.heap.size ≤ b ∧ V 9 = ptr b 0 := hR 9 (by decide)
      have v0 : V 0 = .agg (cU 5 (limb51 (natB f 32))).toArray := hR 0 (by decide)
      have v1 : V 1 = .agg (cU 5 (feMul (limb51 (natB f 32)) (limb51 (natB f 32)))).toArray := hR 1 (by decide)
      have v2 : V 2 = .agg (cU 5 (limb51 (natB g 32))).toArray := hR 2 (by decide)
      have v3 : V 3 = .agg (cU 5 (feMul (feMul (limb51 (natB f 32)) (limb51 (natB f 32))) (limb51 (natB g 32)))).toArray := hR 3 (by decide)
      have v4 : V 4 = .agg (cU 5 (limb51 (natB g 32))).toArray := hR 4 (by decide)
      have v5 : V 5 = .tuple #[.agg (cU 5 (ratioX (feMul (feMul (limb51 (natB f 32)) (limb51 (natB f 32))) (limb51 (natB g 32))) (limb51 (natB g 32))).1).toArray, .bool (ratioX (feMul (feMul (limb51 (natB f 32)) (limb51 (natB f 32))) (limb51 (natB g 32))) (limb51 (natB g 32))).2] := hR 5 (by decide)
      have v6 : V 6 = .tuple #[.agg (cU 5 (ratioX (feMul (feMul (limb51 (natB f 32)) (limb51 (natB f 32))) (limb51 (natB g 32))) (limb51 (natB g 32))).1).toArray, .bool (ratioX (feMul (feMul (limb51 (natB f 32)) (limb51 (natB f 32))) (limb51 (natB g 32))) (limb51 (natB g 32))).2] := hR 6 (by decide)
      have v7 : V 7 = .agg (cU 5 (ratioX (feMul (feMul (limb51 (natB f 32)) (limb51 (natB f 32))) (limb51 (natB g 32))) (limb51 (natB g 32))).1).toArray := hR 7 (by decide)
      have v8 : V 8 = .bool (ratioX (feMul (feMul (limb51 (natB f 32)) (limb51 (natB f 32))) (limb51 (natB g 32))) (limb51 (natB g 32))).2 := hR 8 (by decide)
      replace hS := hS.to [(10, ptr b10 0), (49, .agg (cU 5 (limb51 (natB f 32))).toArray), (50, .agg (cU 5 (feMul (limb51 (natB f 32)) (limb51 (natB f 32)))).toArray), (51, .agg (cU 5 (limb51 (natB g 32))).toArray), (52, .agg (cU 5 (feMul (feMul (limb51 (natB f 32)) (limb51 (natB f 32))) (limb51 (natB g 32)))).toArray), (53, .agg (cU 5 (limb51 (natB g 32))).toArray), (54, .tuple #[.agg (cU 5 (ratioX (feMul (feMul (limb51 (natB f 32)) (limb51 (natB f 32))) (limb51 (natB g 32))) (limb51 (natB g 32))).1).toArray, .bool (ratioX (feMul (feMul (limb51 (natB f 32)) (limb51 (natB f 32))) (limb51 (natB g 32))) (limb51 (natB g 32))).2]), (48, .tuple #[.agg (cU 5 (ratioX (feMul (feMul (limb51 (natB f 32)) (limb51 (natB f 32))) (limb51 (natB g 32))) (limb51 (natB g 32))).1).toArray, .bool (ratioX (feMul (feMul (limb51 (natB f 32)) (limb51 (natB f 32))) (limb51 (natB g 32))) (limb51 (natB g 32))).2]), (55, .agg (cU 5 (ratioX (feMul (feMul (limb51 (natB f 32)) (limb51 (natB f 32))) (limb51 (natB g 32))) (limb51 (natB g 32))).1).toArray), (56, .bool (ratioX (feMul (feMul (limb51 (natB f 32)) (limb51 (natB f 32))) (limb51 (natB g 32))) (limb51 (natB g 32))).2), (6, ptr b6 0), (7, ptr b7 0), (8, ptr b8 0), (9, .bool true)] ⟨congrArg some v9, congrArg some v0, congrArg some v1, congrArg some v2, congrArg some v3, congrArg some v4, congrArg some v5, congrArg some v6, congrArg some v7, congrArg some v8, rfl, rfl, rfl, rfl, trivial⟩
      replace hM := (hM.stop rfl rfl).2; rw [v9] at hM; replace hM : Mem w0 w (⟨b10, 27, cU 5 (ratioX (feMul (feMul (limb51 (natB f 32)) (limb51 (natB f 32))) (limb51 (natB g 32))) (limb51 (natB g 32))).1⟩ :: [⟨b8, 27, cU 5 (ratioX (limb51 (natB f 32)) (limb51 (natB g 32))).1⟩, ⟨b7, 27, cU 5 (limb51 (natB g 32))⟩, ⟨b6, 27, cU 5 (limb51 (natB f 32))⟩, ⟨b3, 22, cB 32 g⟩, ⟨b2, 22, cB 32 f⟩]) := hM
      clear hR v0 v1 v2 v3 v4 v5 v6 v7 v8 v9
      refine s_val hS (by decide) rfl rfl (r_assign hS rfl) ?_; clear hS; intro a hS
      rw [hr1] at hS
      refine s_nil ?_
      refine k_seq ?_
      refine c_seq ?_
      by_cases hA : (ratioN ((natB f 32 % 2 ^ 255 % pP) * (natB f 32 % 2 ^ 255 % pP) % pP * (natB g 32 % 2 ^ 255 % pP) % pP) (natB g 32 % 2 ^ 255 % pP)).1 = (natB f 32 % 2 ^ 255 % pP)
      · skip
        refine c_plan 25 (fun w => Mem w0 w _) [(9, _), (8, _), (7, _), (6, _), (11, _), (10, _)] (by kernel_rfl) (by kernel_rfl) hS ⟨rfl, rfl, rfl, rfl, rfl, rfl, trivial⟩ (hM.drawn _) ?_; clear hS hM
        refine p_step rfl (fun a w hS hM => y_val rfl (r_move hS rfl)) ?_
        refine p_step rfl (fun a w hS hM => y_val rfl (r_not hS rfl)) ?_
        refine p_step rfl (fun a w hS hM => y_val rfl (r_move hS rfl)) ?_
        refine p_step rfl (fun a w hS hM => y_valg hS rfl rfl rfl rfl (r_loadAll hS hM rfl (j := 1) rfl Try.underlying27 rfl sz27 cells_len)) ?_
        refine p_step rfl (fun a w hS hM => y_callg (by kernel_rfl) hS rfl rfl rfl rfl ((square_ok _ _).mem hM)) ?_
        refine p_step rfl (fun a w hS hM => y_valg hS rfl rfl rfl rfl (r_loadAll hS hM rfl (j := 2) rfl Try.underlying27 rfl sz27 cells_len)) ?_
        refine p_step rfl (fun a w hS hM => y_callg (by kernel_rfl) hS rfl rfl rfl rfl ((mul_ok _ _ _).mem hM)) ?_
        refine p_step rfl (fun a w hS hM => y_valg hS rfl rfl rfl rfl (r_loadAll hS hM rfl (j := 3) rfl Try.underlying27 rfl sz27 cells_len)) ?_
        refine p_step rfl (fun a w hS hM => y_callg (by kernel_rfl) hS rfl rfl rfl rfl ((equal_y (by repeat first | assumption | exact Tw.read _ | exact Tw.small _ | exact Tw.zero | apply Tw.add | apply Tw.mul | apply Tw.neg | apply Tw.sub | apply Tw.r1 | apply Tw.inv | apply Tw.out | apply Tw.ratio1 | apply Tw.pow | exact Tw.self (by assumption)) (by repeat first | assumption | exact Tw.read _ | exact Tw.small _ | exact Tw.zero | apply Tw.add | apply Tw.mul | apply Tw.neg | apply Tw.sub | apply Tw.r1 | apply Tw.inv | apply Tw.out | apply Tw.ratio1 | apply Tw.pow | exact Tw.self (by assumption)) (by exact ratio_good h0p (Nat.mod_lt _ pP_pos) (Nat.mod_lt _ pP_pos) hq2) _).mem hM)) ?_
        refine p_step rfl (fun a w hS hM => y_val rfl (r_pick hS rfl rfl)) ?_
        refine p_step rfl (fun a w hS hM => y_val rfl (r_move hS rfl)) ?_
        refine p_step rfl (fun a w hS hM => y_valg hS rfl rfl rfl rfl (r_move hS rfl)) ?_
        refine p_step rfl (fun a w hS hM => y_val rfl (r_pick hS rfl rfl)) ?_
        refine p_step rfl (fun a w hS hM => y_val rfl (r_move hS rfl)) ?_
        refine p_step rfl (fun a w hS hM => y_valg hS rfl rfl rfl rfl (r_loadAll hS hM rfl (j := 0) rfl Try.underlying27 rfl sz27 cells_len)) ?_
        refine p_step rfl (fun a w hS hM => y_valg hS rfl rfl rfl rfl (r_loadAll hS hM rfl (j := 3) rfl Try.underlying27 rfl sz27 cells_len)) ?_
        refine p_step rfl (fun a w hS hM => y_callg (by kernel_rfl) hS rfl rfl rfl rfl ((equal_y (by repeat first | assumption | exact Tw.read _ | exact Tw.small _ | exact Tw.zero | apply Tw.add | apply Tw.mul | apply Tw.neg | apply Tw.sub | apply Tw.r1 | apply Tw.inv | apply Tw.out | apply Tw.ratio1 | apply Tw.pow | exact Tw.self (by assumption)) (by repeat first | assumption | exact Tw.read _ | exact Tw.small _ | exact Tw.zero | apply Tw.add | apply Tw.mul | apply Tw.neg | apply Tw.sub | apply Tw.r1 | apply Tw.inv | apply Tw.out | apply Tw.ratio1 | apply Tw.pow | exact Tw.self (by assumption)) (by exact hA) _).mem hM)) ?_
        refine p_step rfl (fun a w hS hM => y_valg hS rfl rfl rfl rfl (r_move hS rfl)) ?_
        refine p_step rfl (fun a w hS hM => y_skip hS rfl rfl rfl rfl) ?_
        refine p_step rfl (fun a w hS hM => y_skip hS rfl rfl rfl rfl) ?_
        refine p_step rfl (fun a w hS hM => y_skip hS rfl rfl rfl rfl) ?_
        refine p_step rfl (fun a w hS hM => y_skip hS rfl rfl rfl rfl) ?_
        refine p_step rfl (fun a w hS hM => y_valg hS rfl rfl rfl rfl (r_pick hS rfl rfl)) ?_
        refine p_step rfl (fun a w hS hM => y_val rfl (r_pick hS rfl rfl)) ?_
        refine p_step rfl (fun a w hS hM => y_val rfl (r_assign hS rfl)) ?_
        refine p_nil rfl ?_; intro a w hS hM
        refine s_nil ?_
        refine k_seq ?_
        refine c_ret ?_
        exact k_res1 hS rfl (RV.tmp rfl) ⟨rfl, hM.done ⟨hb10, hb8, hb7, hb6, hb3, hb2, trivial⟩⟩
      · skip
        refine c_plan 25 (fun w => Mem w0 w _) [(9, _), (8, _), (7, _), (6, _), (11, _), (10, _)] (by kernel_rfl) (by kernel_rfl) hS ⟨rfl, rfl, rfl, rfl, rfl, rfl, trivial⟩ (hM.drawn _) ?_; clear hS hM
        refine p_step rfl (fun a w hS hM => y_val rfl (r_move hS rfl)) ?_
        refine p_step rfl (fun a w hS hM => y_val rfl (r_not hS rfl)) ?_
        refine p_step rfl (fun a w hS hM => y_val rfl (r_move hS rfl)) ?_
        refine p_step rfl (fun a w hS hM => y_valg hS rfl rfl rfl rfl (r_loadAll hS hM rfl (j := 1) rfl Try.underlying27 rfl sz27 cells_len)) ?_
        refine p_step rfl (fun a w hS hM => y_callg (by kernel_rfl) hS rfl rfl rfl rfl ((square_ok _ _).mem hM)) ?_
        refine p_step rfl (fun a w hS hM => y_valg hS rfl rfl rfl rfl (r_loadAll hS hM rfl (j := 2) rfl Try.underlying27 rfl sz27 cells_len)) ?_
        refine p_step rfl (fun a w hS hM => y_callg (by kernel_rfl) hS rfl rfl rfl rfl ((mul_ok _ _ _).mem hM)) ?_
        refine p_step rfl (fun a w hS hM => y_valg hS rfl rfl rfl rfl (r_loadAll hS hM rfl (j := 3) rfl Try.underlying27 rfl sz27 cells_len)) ?_
        refine p_step rfl (fun a w hS hM => y_callg (by kernel_rfl) hS rfl rfl rfl rfl ((equal_y (by repeat first | assumption | exact Tw.read _ | exact Tw.small _ | exact Tw.zero | apply Tw.add | apply Tw.mul | apply Tw.neg | apply Tw.sub | apply Tw.r1 | apply Tw.inv | apply Tw.out | apply Tw.ratio1 | apply Tw.pow | exact Tw.self (by assumption)) (by repeat first | assumption | exact Tw.read _ | exact Tw.small _ | exact Tw.zero | apply Tw.add | apply Tw.mul | apply Tw.neg | apply Tw.sub | apply Tw.r1 | apply Tw.inv | apply Tw.out | apply Tw.ratio1 | apply Tw.pow | exact Tw.self (by assumption)) (by exact ratio_good h0p (Nat.mod_lt _ pP_pos) (Nat.mod_lt _ pP_pos) hq2) _).mem hM)) ?_
        refine p_step rfl (fun a w hS hM => y_val rfl (r_pick hS rfl rfl)) ?_
        refine p_step rfl (fun a w hS hM => y_val rfl (r_move hS rfl)) ?_
        refine p_step rfl (fun a w hS hM => y_valg hS rfl rfl rfl rfl (r_move hS rfl)) ?_
        refine p_step rfl (fun a w hS hM => y_val rfl (r_pick hS rfl rfl)) ?_
        refine p_step rfl (fun a w hS hM => y_val rfl (r_move hS rfl)) ?_
        refine p_step rfl (fun a w hS hM => y_valg hS rfl rfl rfl rfl (r_loadAll hS hM rfl (j := 0) rfl Try.underlying27 rfl sz27 cells_len)) ?_
        refine p_step rfl (fun a w hS hM => y_valg hS rfl rfl rfl rfl (r_loadAll hS hM rfl (j := 3) rfl Try.underlying27 rfl sz27 cells_len)) ?_
        refine p_step rfl (fun a w hS hM => y_callg (by kernel_rfl) hS rfl rfl rfl rfl ((equal_n (by repeat first | assumption | exact Tw.read _ | exact Tw.small _ | exact Tw.zero | apply Tw.add | apply Tw.mul | apply Tw.neg | apply Tw.sub | apply Tw.r1 | apply Tw.inv | apply Tw.out | apply Tw.ratio1 | apply Tw.pow | exact Tw.self (by assumption)) (by repeat first | assumption | exact Tw.read _ | exact Tw.small _ | exact Tw.zero | apply Tw.add | apply Tw.mul | apply Tw.neg | apply Tw.sub | apply Tw.r1 | apply Tw.inv | apply Tw.out | apply Tw.ratio1 | apply Tw.pow | exact Tw.self (by assumption)) (by exact hA) _).mem hM)) ?_
        refine p_step rfl (fun a w hS hM => y_valg hS rfl rfl rfl rfl (r_move hS rfl)) ?_
        refine p_step rfl (fun a w hS hM => y_valg hS rfl rfl rfl rfl (r_loadAll hS hM rfl (j := 0) rfl Try.underlying27 rfl sz27 cells_len)) ?_
        refine p_step rfl (fun a w hS hM => y_valg hS rfl rfl rfl rfl (r_loadAll hS hM rfl (j := 3) rfl Try.underlying27 rfl sz27 cells_len)) ?_
        refine p_step rfl (fun a w hS hM => y_callg (by kernel_rfl) hS rfl rfl rfl rfl ((neg_ok _ _).mem hM)) ?_
        refine p_step rfl (fun a w hS hM => y_callg (by kernel_rfl) hS rfl rfl rfl rfl ((equal_y (by repeat first | assumption | exact Tw.read _ | exact Tw.small _ | exact Tw.zero | apply Tw.add | apply Tw.mul | apply Tw.neg | apply Tw.sub | apply Tw.r1 | apply Tw.inv | apply Tw.out | apply Tw.ratio1 | apply Tw.pow | exact Tw.self (by assumption)) (by repeat first | assumption | exact Tw.read _ | exact Tw.small _ | exact Tw.zero | apply Tw.add | apply Tw.mul | apply Tw.neg | apply Tw.sub | apply Tw.r1 | apply Tw.inv | apply Tw.out | apply Tw.ratio1 | apply Tw.pow | exact Tw.self (by assumption)) (by exact (ratio_square h0p (Nat.mod_lt _ pP_pos) (Nat.mod_lt _ pP_pos)).2.resolve_left hA) _).mem hM)) ?_
        refine p_step rfl (fun a w hS hM => y_valg hS rfl rfl rfl rfl (r_pick hS rfl rfl)) ?_
        refine p_step rfl (fun a w hS hM => y_val rfl (r_pick hS rfl rfl)) ?_
        refine p_step rfl (fun a w hS hM => y_val rfl (r_assign hS rfl)) ?_
        refine p_nil rfl ?_; intro a w hS hM
        refine s_nil ?_
        refine k_seq ?_
        refine c_ret ?_
        exact k_res1 hS rfl (RV.tmp rfl) ⟨rfl, hM.done ⟨hb10, hb8, hb7, hb6, hb3, hb2, trivial⟩⟩
end Go.Proofs.Ytjnhgeoojnnfoaa
