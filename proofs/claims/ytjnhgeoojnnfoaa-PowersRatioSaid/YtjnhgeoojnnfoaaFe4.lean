/- The walks through package fe. Printed by a program of mine (walk.py). -/
import Derived.Test.YtjnhgeoojnnfoaaProg
import Derived.Test.YtjnhgeoojnnfoaaFe3
import Derived.Test.YtjnhgeoojnnfoaaSymVary
namespace Go.Proofs.Ytjnhgeoojnnfoaa
open Go Go.Sym

theorem ext55 : ExtOk Try.prog 55 Try.f55 addEntry := ⟨Try.func55, by kernel_rfl, by kernel_rfl, by kernel_rfl, by kernel_rfl⟩
theorem sz5 : (Try.prog.info? 5).map (·.size) = some 1 := by kernel_rfl
theorem sz22 : (Try.prog.info? 22).map (·.size) = some 32 := by kernel_rfl
theorem sz24 : (Try.prog.info? 24).map (·.size) = some 1 := by kernel_rfl
theorem sz25 : (Try.prog.info? 25).map (·.size) = some 5 := by kernel_rfl
theorem sz27 : (Try.prog.info? 27).map (·.size) = some 5 := by kernel_rfl
theorem sz64 : (Try.prog.info? 64).map (·.size) = some 2 := by kernel_rfl
theorem sz65 : (Try.prog.info? 65).map (·.size) = some 10 := by kernel_rfl
theorem zero22 : Zero Try.prog 22 (cB 32 (fun _ => 0)) := fun _ => by kernel_rfl
theorem zero25 : Zero Try.prog 25 (cU 5 (fun _ => 0)) := fun _ => by kernel_rfl
theorem zero27 : Zero Try.prog 27 (cU 5 (fun _ => 0)) := fun _ => by kernel_rfl
theorem zero60 : Zero Try.prog 60 (cU 4 (fun _ => 0)) := fun _ => by kernel_rfl
theorem zero64 : Zero Try.prog 64 (cU 2 (fun _ => 0)) := fun _ => by kernel_rfl
theorem zero65 : Zero Try.prog 65 (cU 10 (fun _ => 0)) := fun _ => by kernel_rfl
theorem build25 (x0 x1 x2 x3 x4 : BitVec 64) (w : World) : (Instr.build 25 ([(0, U x0), (1, U x1), (2, U x2), (3, U x3), (4, U x4)] : List (Nat × Value)).toArray).run Try.prog w = .ok (.agg (cU 5 (lst 0 [x0, x1, x2, x3, x4])).toArray) w := by kernel_rfl
theorem build25_2 (x0 x1 : BitVec 64) (w : World) : (Instr.build 25 ([(0, U x0), (1, U x1)] : List (Nat × Value)).toArray).run Try.prog w = .ok (.agg (cU 5 (lst 0 [x0, x1])).toArray) w := by kernel_rfl
theorem bld27 (x : Nat → BitVec 64) (w : World) : (Instr.build 27 ([(0, .agg (cU 5 x).toArray)] : List (Nat × Value)).toArray).run Try.prog w = .ok (.agg (cU 5 x).toArray) w := by kernel_rfl

set_option maxRecDepth 100000 in
theorem mul64_ok (x y : BitVec 64) (w0 : World) : Pure Try.prog 54 #[U x, U y] w0 (.tuple #[U (mulHi x y), U (x * y)]) := by
  refine ⟨by kernel_rfl, ?_⟩
  refine calls_sym Try.func54 rfl (by kernel_rfl) ?_
  intro a hS
  have hM : Mem w0 w0 [] := Mem.refl w0
  refine c_seq ?_
  refine c_region ?_
  refine s_val hS (by decide) rfl rfl (r_assign hS (show ev _ _ = some (U 0#64) from rfl)) ?_; clear hS; intro a hS
  refine s_val hS (by decide) rfl rfl (r_assign hS (show ev _ _ = some (U 0#64) from rfl)) ?_; clear hS; intro a hS
  refine s_nil ?_
  refine k_seq ?_
  refine c_seq ?_
  refine c_region ?_
  refine s_val hS (by decide) rfl rfl (r_move hS rfl) ?_; clear hS; intro a hS
  refine s_val hS (by decide) rfl rfl (r_bv hS rfl (show ev _ _ = some (U 4294967295#64) from rfl) gU (b_andU _ _ _)) ?_; clear hS; intro a hS
  refine s_val hS (by decide) rfl rfl (r_assign hS rfl) ?_; clear hS; intro a hS
  refine s_nil ?_
  refine k_seq ?_
  refine c_seq ?_
  refine c_region ?_
  refine s_val hS (by decide) rfl rfl (r_move hS rfl) ?_; clear hS; intro a hS
  refine s_val hS (by decide) rfl rfl (r_bv hS rfl (show ev _ _ = some (.int .u64 ((32 : Nat) : Int)) from rfl) gU (b_shrU _ _ _ 32)) ?_; clear hS; intro a hS
  refine s_val hS (by decide) rfl rfl (r_assign hS rfl) ?_; clear hS; intro a hS
  refine s_nil ?_
  refine k_seq ?_
  refine c_seq ?_
  refine c_region ?_
  refine s_val hS (by decide) rfl rfl (r_move hS rfl) ?_; clear hS; intro a hS
  refine s_val hS (by decide) rfl rfl (r_bv hS rfl (show ev _ _ = some (U 4294967295#64) from rfl) gU (b_andU _ _ _)) ?_; clear hS; intro a hS
  refine s_val hS (by decide) rfl rfl (r_assign hS rfl) ?_; clear hS; intro a hS
  refine s_nil ?_
  refine k_seq ?_
  refine c_seq ?_
  refine c_region ?_
  refine s_val hS (by decide) rfl rfl (r_move hS rfl) ?_; clear hS; intro a hS
  refine s_val hS (by decide) rfl rfl (r_bv hS rfl (show ev _ _ = some (.int .u64 ((32 : Nat) : Int)) from rfl) gU (b_shrU _ _ _ 32)) ?_; clear hS; intro a hS
  refine s_val hS (by decide) rfl rfl (r_assign hS rfl) ?_; clear hS; intro a hS
  refine s_nil ?_
  refine k_seq ?_
  refine c_seq ?_
  refine c_region ?_
  refine s_val hS (by decide) rfl rfl (r_move hS rfl) ?_; clear hS; intro a hS
  refine s_val hS (by decide) rfl rfl (r_move hS rfl) ?_; clear hS; intro a hS
  refine s_val hS (by decide) rfl rfl (r_bv hS rfl rfl gU (b_mulU _ _ _)) ?_; clear hS; intro a hS
  refine s_val hS (by decide) rfl rfl (r_assign hS rfl) ?_; clear hS; intro a hS
  refine s_nil ?_
  refine k_seq ?_
  refine c_seq ?_
  refine c_region ?_
  refine s_val hS (by decide) rfl rfl (r_move hS rfl) ?_; clear hS; intro a hS
  refine s_val hS (by decide) rfl rfl (r_move hS rfl) ?_; clear hS; intro a hS
  refine s_val hS (by decide) rfl rfl (r_bv hS rfl rfl gU (b_mulU _ _ _)) ?_; clear hS; intro a hS
  refine s_val hS (by decide) rfl rfl (r_move hS rfl) ?_; clear hS; intro a hS
  refine s_val hS (by decide) rfl rfl (r_bv hS rfl (show ev _ _ = some (.int .u64 ((32 : Nat) : Int)) from rfl) gU (b_shrU _ _ _ 32)) ?_; clear hS; intro a hS
  refine s_val hS (by decide) rfl rfl (r_bv hS rfl rfl gU (b_addU _ _ _)) ?_; clear hS; intro a hS
  refine s_val hS (by decide) rfl rfl (r_assign hS rfl) ?_; clear hS; intro a hS
  refine s_nil ?_
  refine k_seq ?_
  refine c_seq ?_
  refine c_region ?_
  refine s_val hS (by decide) rfl rfl (r_move hS rfl) ?_; clear hS; intro a hS
  refine s_val hS (by decide) rfl rfl (r_bv hS rfl (show ev _ _ = some (U 4294967295#64) from rfl) gU (b_andU _ _ _)) ?_; clear hS; intro a hS
  refine s_val hS (by decide) rfl rfl (r_assign hS rfl) ?_; clear hS; intro a hS
  refine s_nil ?_
  refine k_seq ?_
  refine c_seq ?_
  refine c_region ?_
  refine s_val hS (by decide) rfl rfl (r_move hS rfl) ?_; clear hS; intro a hS
  refine s_val hS (by decide) rfl rfl (r_bv hS rfl (show ev _ _ = some (.int .u64 ((32 : Nat) : Int)) from rfl) gU (b_shrU _ _ _ 32)) ?_; clear hS; intro a hS
  refine s_val hS (by decide) rfl rfl (r_assign hS rfl) ?_; clear hS; intro a hS
  refine s_nil ?_
  refine k_seq ?_
  refine c_seq ?_
  refine c_region ?_
  refine s_val hS (by decide) rfl rfl (r_move hS rfl) ?_; clear hS; intro a hS
  refine s_val hS (by decide) rfl rfl (r_move hS rfl) ?_; clear hS; intro a hS
  refine s_val hS (by decide) rfl rfl (r_move hS rfl) ?_; clear hS; intro a hS
  refine s_val hS (by decide) rfl rfl (r_bv hS rfl rfl gU (b_mulU _ _ _)) ?_; clear hS; intro a hS
  refine s_val hS (by decide) rfl rfl (r_bv hS rfl rfl gU (b_addU _ _ _)) ?_; clear hS; intro a hS
  refine s_val hS (by decide) rfl rfl (r_assign hS rfl) ?_; clear hS; intro a hS
  refine s_nil ?_
  refine k_seq ?_
  refine c_seq ?_
  refine c_region ?_
  refine s_val hS (by decide) rfl rfl (r_move hS rfl) ?_; clear hS; intro a hS
  refine s_val hS (by decide) rfl rfl (r_move hS rfl) ?_; clear hS; intro a hS
  refine s_val hS (by decide) rfl rfl (r_bv hS rfl rfl gU (b_mulU _ _ _)) ?_; clear hS; intro a hS
  refine s_val hS (by decide) rfl rfl (r_move hS rfl) ?_; clear hS; intro a hS
  refine s_val hS (by decide) rfl rfl (r_bv hS rfl rfl gU (b_addU _ _ _)) ?_; clear hS; intro a hS
  refine s_val hS (by decide) rfl rfl (r_move hS rfl) ?_; clear hS; intro a hS
  refine s_val hS (by decide) rfl rfl (r_bv hS rfl (show ev _ _ = some (.int .u64 ((32 : Nat) : Int)) from rfl) gU (b_shrU _ _ _ 32)) ?_; clear hS; intro a hS
  refine s_val hS (by decide) rfl rfl (r_bv hS rfl rfl gU (b_addU _ _ _)) ?_; clear hS; intro a hS
  refine s_val hS (by decide) rfl rfl (r_assign hS rfl) ?_; clear hS; intro a hS
  refine s_nil ?_
  refine k_seq ?_
  refine c_seq ?_
  refine c_region ?_
  refine s_val hS (by decide) rfl rfl (r_move hS rfl) ?_; clear hS; intro a hS
  refine s_val hS (by decide) rfl rfl (r_move hS rfl) ?_; clear hS; intro a hS
  refine s_val hS (by decide) rfl rfl (r_bv hS rfl rfl gU (b_mulU _ _ _)) ?_; clear hS; intro a hS
  refine s_val hS (by decide) rfl rfl (r_assign hS rfl) ?_; clear hS; intro a hS
  refine s_nil ?_
  refine k_seq ?_
  refine c_ret ?_
  exact k_res2 hS rfl (RV.tmp rfl) (RV.tmp rfl) ⟨rfl, hM.done trivial⟩

set_option maxRecDepth 100000 in
theorem carry_ok (x : Nat → BitVec 64) (w0 : World) : Pure Try.prog 46 #[.agg (cU 5 x).toArray] w0 (.agg (cU 5 (feCarry x)).toArray) := by
  refine ⟨by kernel_rfl, ?_⟩
  refine calls_sym Try.func46 rfl (by kernel_rfl) ?_
  intro a hS
  have hM : Mem w0 w0 [] := Mem.refl w0
  refine c_seq ?_
  refine c_region ?_
  refine s_box hS hM (by decide) rfl rfl ?_; clear hS hM; intro a b1 w hb1 hS hM
  refine s_alloc hS hM (by decide) zero27 ?_; clear hS hM; intro a b2 w hb2 hS hM
  refine s_nil ?_
  refine k_seq ?_
  refine c_seq ?_
  refine c_region ?_
  refine s_alloc hS hM (by decide) zero25 ?_; clear hS hM; intro a b3 w hb3 hS hM
  refine s_nil ?_
  refine k_seq ?_
  refine c_seq ?_
  refine c_seq ?_
  refine c_region ?_
  refine s_val hS (by decide) rfl rfl (r_field0 hS rfl Try.underlying27 rfl (s := 4) sz25 (k := 0) rfl) ?_; clear hS; intro a hS
  refine s_val hS (by decide) rfl rfl (r_loadAll hS hM rfl (j := 2) rfl Try.underlying25 rfl sz25 cells_len) ?_; clear hS; intro a hS
  refine s_val hS (by decide) rfl rfl (r_move hS (show ev _ _ = some (N 0) from rfl)) ?_; clear hS; intro a hS
  refine s_nil ?_
  refine k_seq ?_
  refine c_block ?_
  refine c_loop (σ := Nat) (fun k a w => (k ≤ 5) ∧ Slots a 56 (env [(1, ptr b1 0), (2, ptr b2 0), (3, ptr b3 0), (10, .agg (cU 5 x).toArray), (11, N k)]) ∧ Mem w0 w ([⟨b3, 25, cU 5 (fil 0 (fun i => x i >>> 51) k)⟩, ⟨b2, 27, cU 5 (fun _ => 0)⟩, ⟨b1, 27, cU 5 x⟩])) (fun k => 5 - k) (0) ⟨by omega, hS.to _ ⟨rfl, rfl, rfl, rfl, rfl, trivial⟩, hM⟩ ?_
  clear hS hM; rintro k a w ⟨hk, hS, hM⟩
  refine c_seq ?_
  refine c_region ?_
  refine s_val hS (by decide) rfl rfl (r_bv hS rfl (show ev _ _ = some (N 5) from rfl) gN (b_lssN _ _ _)) ?_; clear hS; intro a hS
  refine s_nil ?_
  refine k_seq ?_
  refine c_seq ?_
  refine c_cond hS rfl (fun hc => ?_) (fun hc => ?_)
  · have hk1 := of_decide_eq_true hc
    refine c_skip ?_
    refine k_seq ?_
    refine c_seq ?_
    refine c_block ?_
    refine c_seq ?_
    refine c_region ?_
    refine s_val hS (by decide) rfl rfl (r_move hS rfl) ?_; clear hS; intro a hS
    refine s_val hS (by decide) rfl rfl (r_index hS rfl rfl Try.underlying25 sz24 Try.underlying24 rfl (by omega) (cells_get' (by omega))) ?_; clear hS; intro a hS
    refine s_val hS (by decide) rfl rfl (r_assign hS rfl) ?_; clear hS; intro a hS
    refine s_val hS (by decide) rfl rfl (r_assign hS rfl) ?_; clear hS; intro a hS
    refine s_nil ?_
    refine k_seq ?_
    refine c_region ?_
    refine s_val hS (by decide) rfl rfl (r_move hS rfl) ?_; clear hS; intro a hS
    refine s_val hS (by decide) rfl rfl (r_move hS rfl) ?_; clear hS; intro a hS
    refine s_val hS (by decide) rfl rfl (r_bv hS rfl (show ev _ _ = some (.int .u64 ((51 : Nat) : Int)) from rfl) gU (b_shrU _ _ _ 51)) ?_; clear hS; intro a hS
    refine s_val hS (by decide) rfl rfl (r_index0 hS rfl rfl Try.underlying25 sz24 (by omega)) ?_; clear hS; intro a hS
    refine s_storeU hS hM rfl rfl (j := 0) rfl sz24 (by omega) ?_; clear hS hM; intro a w hS hM
    refine s_nil ?_
    refine k_in ?_
    refine k_seq ?_
    refine c_region ?_
    refine s_val hS (by decide) rfl rfl (r_bv hS rfl (show ev _ _ = some (N 1) from rfl) gN (b_addN _ _ _ (by omega))) ?_; clear hS; intro a hS
    refine s_val hS (by decide) rfl rfl (r_move hS rfl) ?_; clear hS; intro a hS
    refine s_nil ?_
    refine k_then ?_
    refine ⟨k + 1, by omega, by omega, hS.to _ ⟨rfl, rfl, rfl, rfl, rfl, trivial⟩, hM⟩
  · obtain rfl : k = 5 := (by have := of_decide_eq_false hc; omega); rw [cU_fil] at hM
    refine c_exit ?_
    refine k_thenx ?_
    refine k_thenx ?_
    refine k_inx ?_
    refine k_seq ?_
    refine c_seq ?_
    refine c_region ?_
    refine s_val hS (by decide) rfl rfl (r_build hS rfl (cs := cU 5 (fun _ => 0)) (fun _ => by kernel_rfl)) ?_; clear hS; intro a hS
    refine s_alloc hS hM (by decide) zero27 ?_; clear hS hM; intro a b6 w hb6 hS hM
    refine s_storeAll hS hM rfl rfl (j := 0) rfl sz27 cells_len cells_len cU_one ?_; clear hS hM; intro a w hS hM
    refine s_nil ?_
    refine k_seq ?_
    refine c_seq ?_
    refine c_seq ?_
    refine c_region ?_
    refine s_val hS (by decide) rfl rfl (r_field0 hS rfl Try.underlying27 rfl (s := 4) sz25 (k := 0) rfl) ?_; clear hS; intro a hS
    refine s_val hS (by decide) rfl rfl (r_loadAll hS hM rfl (j := 3) rfl Try.underlying25 rfl sz25 cells_len) ?_; clear hS; intro a hS
    refine s_val hS (by decide) rfl rfl (r_move hS (show ev _ _ = some (N 0) from rfl)) ?_; clear hS; intro a hS
    refine s_nil ?_
    refine k_seq ?_
    refine c_block ?_
    refine c_loop (σ := Nat) (fun k a w => (k ≤ 5) ∧ Slots a 56 (env [(2, ptr b2 0), (3, ptr b3 0), (6, ptr b6 0), (22, .agg (cU 5 x).toArray), (23, N k)]) ∧ Mem w0 w ([⟨b6, 27, cU 5 (carTo x k)⟩, ⟨b3, 25, cU 5 (fun i => x i >>> 51)⟩, ⟨b2, 27, cU 5 (fun _ => 0)⟩, ⟨b1, 27, cU 5 x⟩])) (fun k => 5 - k) (0) ⟨by omega, hS.to _ ⟨rfl, rfl, rfl, rfl, rfl, trivial⟩, (by rw [carTo_zero]; exact hM)⟩ ?_
    clear hS hM; rintro k a w ⟨hk, hS, hM⟩
    refine c_seq ?_
    refine c_region ?_
    refine s_val hS (by decide) rfl rfl (r_bv hS rfl (show ev _ _ = some (N 5) from rfl) gN (b_lssN _ _ _)) ?_; clear hS; intro a hS
    refine s_nil ?_
    refine k_seq ?_
    refine c_seq ?_
    refine c_cond hS rfl (fun hc => ?_) (fun hc => ?_)
    · have hk1 := of_decide_eq_true hc
      refine c_skip ?_
      refine k_seq ?_
      refine c_seq ?_
      refine c_block ?_
      refine c_seq ?_
      refine c_region ?_
      refine s_val hS (by decide) rfl rfl (r_move hS rfl) ?_; clear hS; intro a hS
      refine s_val hS (by decide) rfl rfl (r_index hS rfl rfl Try.underlying25 sz24 Try.underlying24 rfl (by omega) (cells_get' (by omega))) ?_; clear hS; intro a hS
      refine s_val hS (by decide) rfl rfl (r_assign hS rfl) ?_; clear hS; intro a hS
      refine s_val hS (by decide) rfl rfl (r_assign hS rfl) ?_; clear hS; intro a hS
      refine s_nil ?_
      refine k_seq ?_
      refine c_seq ?_
      refine c_region ?_
      refine s_val hS (by decide) rfl rfl (r_move hS rfl) ?_; clear hS; intro a hS
      refine s_val hS (by decide) rfl rfl (r_move hS rfl) ?_; clear hS; intro a hS
      refine s_val hS (by decide) rfl rfl (r_bv hS rfl (show ev _ _ = some (U 2251799813685247#64) from rfl) gU (b_andU _ _ _)) ?_; clear hS; intro a hS
      refine s_val hS (by decide) rfl rfl (r_field0 hS rfl Try.underlying27 rfl (s := 4) sz25 (k := 0) rfl) ?_; clear hS; intro a hS
      refine s_val hS (by decide) rfl rfl (r_index0 hS rfl rfl Try.underlying25 sz24 (by omega)) ?_; clear hS; intro a hS
      refine s_storeU hS hM rfl rfl (j := 0) rfl sz24 (by omega) ?_; clear hS hM; intro a w hS hM
      refine s_nil ?_
      refine k_seq ?_
      refine c_seq ?_
      refine c_region ?_
      refine s_val hS (by decide) rfl rfl (r_move hS rfl) ?_; clear hS; intro a hS
      refine s_val hS (by decide) rfl rfl (r_bv hS rfl (show ev _ _ = some (N 0) from rfl) gN (b_gtrN _ _ _)) ?_; clear hS; intro a hS
      refine s_nil ?_
      refine k_seq ?_
      refine c_cond hS rfl (fun hc => ?_) (fun hc => ?_)
      · have hk2 := of_decide_eq_true hc
        refine c_plan 11 (fun w => Mem w0 w _) [(7, _), (6, _), (3, _), (2, _), (8, _), (22, _), (23, _), (24, _), (25, _), (26, _), (27, _), (28, _), (29, _), (30, _), (31, _), (32, _), (33, _)] (by kernel_rfl) (by kernel_rfl) hS ⟨rfl, rfl, rfl, rfl, rfl, rfl, rfl, rfl, rfl, rfl, rfl, rfl, rfl, rfl, rfl, rfl, rfl, trivial⟩ (hM.drawn _) ?_; clear hS hM
        refine p_step rfl (fun a w hS hM => y_val rfl (r_move hS rfl)) ?_
        refine p_step rfl (fun a w hS hM => y_val rfl (r_field0 hS rfl Try.underlying27 rfl (s := 4) sz25 (k := 0) rfl)) ?_
        refine p_step rfl (fun a w hS hM => y_val rfl (r_index0 hS rfl rfl Try.underlying25 sz24 (by omega))) ?_
        refine p_step rfl (fun a w hS hM => y_val rfl (r_load hS hM rfl (j := 0) rfl Try.underlying24 rfl (cells_get (by omega)))) ?_
        refine p_step rfl (fun a w hS hM => y_val rfl (r_move hS rfl)) ?_
        refine p_step rfl (fun a w hS hM => y_val rfl (r_bv hS rfl (show ev _ _ = some (N 1) from rfl) gN (b_subN _ _ _ (by omega) (by omega)))) ?_
        refine p_step rfl (fun a w hS hM => y_val rfl (r_index0 hS rfl rfl Try.underlying25 sz24 (by omega))) ?_
        refine p_step rfl (fun a w hS hM => y_val rfl (r_load hS hM rfl (j := 1) rfl Try.underlying24 rfl (cells_get (by omega)))) ?_
        refine p_step rfl (fun a w hS hM => y_val rfl (r_bv hS rfl rfl gU (b_addU _ _ _))) ?_
        refine p_step rfl (fun a w hS hM => y_val rfl (r_field0 hS rfl Try.underlying27 rfl (s := 4) sz25 (k := 0) rfl)) ?_
        refine p_step rfl (fun a w hS hM => y_val rfl (r_index0 hS rfl rfl Try.underlying25 sz24 (by omega))) ?_
        refine p_nil rfl ?_; intro a w hS hM
        refine s_storeU hS hM rfl rfl (j := 0) rfl sz24 (by omega) ?_; clear hS hM; intro a w hS hM
        refine s_nil ?_
        refine k_in ?_
        refine k_seq ?_
        refine c_region ?_
        refine s_val hS (by decide) rfl rfl (r_bv hS rfl (show ev _ _ = some (N 1) from rfl) gN (b_addN _ _ _ (by omega))) ?_; clear hS; intro a hS
        refine s_val hS (by decide) rfl rfl (r_move hS rfl) ?_; clear hS; intro a hS
        refine s_nil ?_
        refine k_then ?_
        refine ⟨k + 1, by omega, by omega, hS.to _ ⟨rfl, rfl, rfl, rfl, rfl, trivial⟩, (by first | exact hM.congr (by rw [← carTo_next x k (by omega)]; rfl) | exact hM.congr (by rw [← carTo_first x k (by omega)]; rfl))⟩
      · have hk2 := of_decide_eq_false hc
        refine c_skip ?_
        refine k_in ?_
        refine k_seq ?_
        refine c_region ?_
        refine s_val hS (by decide) rfl rfl (r_bv hS rfl (show ev _ _ = some (N 1) from rfl) gN (b_addN _ _ _ (by omega))) ?_; clear hS; intro a hS
        refine s_val hS (by decide) rfl rfl (r_move hS rfl) ?_; clear hS; intro a hS
        refine s_nil ?_
        refine k_then ?_
        refine ⟨k + 1, by omega, by omega, hS.to _ ⟨rfl, rfl, rfl, rfl, rfl, trivial⟩, (by first | exact hM.congr (by rw [← carTo_next x k (by omega)]; rfl) | exact hM.congr (by rw [← carTo_first x k (by omega)]; rfl))⟩
    · obtain rfl : k = 5 := by have := of_decide_eq_false hc; omega
      refine c_exit ?_
      refine k_thenx ?_
      refine k_thenx ?_
      refine k_inx ?_
      refine k_seq ?_
      refine c_seq ?_
      refine c_region ?_
      refine s_val hS (by decide) rfl rfl (r_field0 hS rfl Try.underlying27 rfl (s := 4) sz25 (k := 0) rfl) ?_; clear hS; intro a hS
      refine s_val hS (by decide) rfl rfl (r_index0 hS rfl (show ev _ _ = some (.int .i64 ((0 : Nat) : Int)) from rfl) Try.underlying25 sz24 (by decide)) ?_; clear hS; intro a hS
      refine s_val hS (by decide) rfl rfl (r_load hS hM rfl (j := 0) rfl Try.underlying24 rfl (cells_get (by omega))) ?_; clear hS; intro a hS
      refine s_val hS (by decide) rfl rfl (r_index0 hS rfl (show ev _ _ = some (.int .i64 ((4 : Nat) : Int)) from rfl) Try.underlying25 sz24 (by decide)) ?_; clear hS; intro a hS
      refine s_val hS (by decide) rfl rfl (r_load hS hM rfl (j := 1) rfl Try.underlying24 rfl (cells_get (by omega))) ?_; clear hS; intro a hS
      refine s_val hS (by decide) rfl rfl (r_bv hS rfl (show ev _ _ = some (U 19#64) from rfl) gU (b_mulU _ _ _)) ?_; clear hS; intro a hS
      refine s_val hS (by decide) rfl rfl (r_bv hS rfl rfl gU (b_addU _ _ _)) ?_; clear hS; intro a hS
      refine s_val hS (by decide) rfl rfl (r_field0 hS rfl Try.underlying27 rfl (s := 4) sz25 (k := 0) rfl) ?_; clear hS; intro a hS
      refine s_val hS (by decide) rfl rfl (r_index0 hS rfl (show ev _ _ = some (.int .i64 ((0 : Nat) : Int)) from rfl) Try.underlying25 sz24 (by decide)) ?_; clear hS; intro a hS
      refine s_storeU hS hM rfl rfl (j := 0) rfl sz24 (by omega) ?_; clear hS hM; intro a w hS hM
      rw [carTo_end] at hM
      refine s_nil ?_
      refine k_seq ?_
      refine c_seq ?_
      refine c_region ?_
      refine s_val hS (by decide) rfl rfl (r_loadAll hS hM rfl (j := 0) rfl Try.underlying27 rfl sz27 cells_len) ?_; clear hS; intro a hS
      refine s_storeAll hS hM rfl rfl (j := 2) rfl sz27 cells_len cells_len cU_one ?_; clear hS hM; intro a w hS hM
      refine s_nil ?_
      refine k_seq ?_
      refine c_ret ?_
      exact k_res1 hS rfl (RV.row rfl (hM.have_ _ (mem_of_get (j := 2) rfl)) Try.underlying27 rfl (by rw [sz27]; exact congrArg some cells_len.symm)) ⟨rfl, hM.done ⟨hb6, hb3, hb2, hb1, trivial⟩⟩

set_option maxRecDepth 100000 in
theorem least_ok (x : Nat → BitVec 64) (hx : Ok x) (w0 : World) : Pure Try.prog 45 #[.agg (cU 5 x).toArray] w0 (.agg (cU 5 (limb51 (val x % pP))).toArray) := by
  have ⟨hc1, hc2, _⟩ := carried_small hx
  refine ⟨by kernel_rfl, ?_⟩
  refine calls_sym Try.func45 rfl (by kernel_rfl) ?_
  intro a hS
  have hM : Mem w0 w0 [] := Mem.refl w0
  refine c_seq ?_
  refine c_region ?_
  refine s_box hS hM (by decide) rfl rfl ?_; clear hS hM; intro a b1 w hb1 hS hM
  refine s_alloc hS hM (by decide) zero27 ?_; clear hS hM; intro a b2 w hb2 hS hM
  refine s_nil ?_
  refine k_seq ?_
  refine c_seq ?_
  refine c_region ?_
  refine s_val hS (by decide) rfl rfl (r_loadAll hS hM rfl (j := 1) rfl Try.underlying27 rfl sz27 cells_len) ?_; clear hS; intro a hS
  refine s_pure hS hM (by decide) rfl (carry_ok _ _) ?_; clear hS hM; intro a w hS hM
  refine s_storeAll hS hM rfl rfl (j := 1) rfl sz27 cells_len cells_len cU_one ?_; clear hS hM; intro a w hS hM
  refine s_nil ?_
  refine k_seq ?_
  refine c_seq ?_
  refine c_region ?_
  refine s_val hS (by decide) rfl rfl (r_assign hS (show ev _ _ = some (U 19#64) from rfl)) ?_; clear hS; intro a hS
  refine s_nil ?_
  refine k_seq ?_
  refine c_seq ?_
  refine c_seq ?_
  refine c_region ?_
  refine s_val hS (by decide) rfl rfl (r_field0 hS rfl Try.underlying27 rfl (s := 4) sz25 (k := 0) rfl) ?_; clear hS; intro a hS
  refine s_val hS (by decide) rfl rfl (r_loadAll hS hM rfl (j := 1) rfl Try.underlying25 rfl sz25 cells_len) ?_; clear hS; intro a hS
  refine s_val hS (by decide) rfl rfl (r_move hS (show ev _ _ = some (N 0) from rfl)) ?_; clear hS; intro a hS
  refine s_nil ?_
  refine k_seq ?_
  refine c_block ?_
  refine c_loop (σ := Nat) (fun k a w => (k ≤ 5) ∧ Slots a 39 (env [(1, ptr b1 0), (2, ptr b2 0), (3, U (BitVec.ofNat 64 (chn 19 (feCarry x) k))), (10, .agg (cU 5 (feCarry x)).toArray), (11, N k)]) ∧ Mem w0 w ([⟨b2, 27, cU 5 (fun _ => 0)⟩, ⟨b1, 27, cU 5 (feCarry x)⟩])) (fun k => 5 - k) (0) ⟨by omega, hS.to _ ⟨rfl, rfl, congrArg (fun q => some (U q)) (by rw [chn_zero]), rfl, rfl, trivial⟩, hM⟩ ?_
  clear hS hM; rintro k a w ⟨hk, hS, hM⟩
  refine c_seq ?_
  refine c_region ?_
  refine s_val hS (by decide) rfl rfl (r_bv hS rfl (show ev _ _ = some (N 5) from rfl) gN (b_lssN _ _ _)) ?_; clear hS; intro a hS
  refine s_nil ?_
  refine k_seq ?_
  refine c_seq ?_
  refine c_cond hS rfl (fun hc => ?_) (fun hc => ?_)
  · have hk1 := of_decide_eq_true hc
    refine c_skip ?_
    refine k_seq ?_
    refine c_seq ?_
    refine c_block ?_
    refine c_seq ?_
    refine c_region ?_
    refine s_val hS (by decide) rfl rfl (r_index hS rfl rfl Try.underlying25 sz24 Try.underlying24 rfl (by omega) (cells_get' (by omega))) ?_; clear hS; intro a hS
    refine s_val hS (by decide) rfl rfl (r_assign hS rfl) ?_; clear hS; intro a hS
    refine s_nil ?_
    refine k_seq ?_
    refine c_region ?_
    refine s_val hS (by decide) rfl rfl (r_move hS rfl) ?_; clear hS; intro a hS
    refine s_val hS (by decide) rfl rfl (r_move hS rfl) ?_; clear hS; intro a hS
    refine s_val hS (by decide) rfl rfl (r_bv hS rfl rfl gU (b_addU _ _ _)) ?_; clear hS; intro a hS
    refine s_val hS (by decide) rfl rfl (r_bv hS rfl (show ev _ _ = some (.int .u64 ((51 : Nat) : Int)) from rfl) gU (b_shrU _ _ _ 51)) ?_; clear hS; intro a hS
    refine s_val hS (by decide) rfl rfl (r_assign hS rfl) ?_; clear hS; intro a hS
    refine s_nil ?_
    refine k_in ?_
    refine k_seq ?_
    refine c_region ?_
    refine s_val hS (by decide) rfl rfl (r_bv hS rfl (show ev _ _ = some (N 1) from rfl) gN (b_addN _ _ _ (by omega))) ?_; clear hS; intro a hS
    refine s_val hS (by decide) rfl rfl (r_move hS rfl) ?_; clear hS; intro a hS
    refine s_nil ?_
    refine k_then ?_
    refine ⟨k + 1, by omega, by omega, hS.to _ ⟨rfl, rfl, congrArg (fun q => some (U q)) (chn_step (by decide) hc1 k hk1 _ _ (by rw [chn_bv (by decide) hc1 k (by omega)])), rfl, rfl, trivial⟩, hM⟩
  · obtain rfl : k = 5 := by have := of_decide_eq_false hc; omega
    refine c_exit ?_
    refine k_thenx ?_
    refine k_thenx ?_
    refine k_inx ?_
    refine k_seq ?_
    refine c_seq ?_
    refine c_region ?_
    refine s_val hS (by decide) rfl rfl (r_move hS rfl) ?_; clear hS; intro a hS
    refine s_val hS (by decide) rfl rfl (r_bv hS rfl (show ev _ _ = some (U 19#64) from rfl) gU (b_mulU _ _ _)) ?_; clear hS; intro a hS
    refine s_val hS (by decide) rfl rfl (r_assign hS rfl) ?_; clear hS; intro a hS
    rw [mul19 hc2] at hS
    refine s_nil ?_
    refine k_seq ?_
    refine c_seq ?_
    refine c_seq ?_
    refine c_region ?_
    refine s_val hS (by decide) rfl rfl (r_move hS (show ev _ _ = some (N 0) from rfl)) ?_; clear hS; intro a hS
    refine s_nil ?_
    refine k_seq ?_
    refine c_block ?_
    refine c_loop (σ := Nat) (fun k a w => (k ≤ 5) ∧ Slots a 39 (env [(1, ptr b1 0), (2, ptr b2 0), (3, U (BitVec.ofNat 64 (chn (19 * chn 19 (feCarry x) 5) (feCarry x) k))), (21, N k)]) ∧ Mem w0 w ([⟨b2, 27, cU 5 (fun _ => 0)⟩, ⟨b1, 27, cU 5 (leTo (feCarry x) (19 * chn 19 (feCarry x) 5) k)⟩])) (fun k => 5 - k) (0) ⟨by omega, hS.to _ ⟨rfl, rfl, rfl, rfl, trivial⟩, (by rw [leTo_zero]; exact hM)⟩ ?_
    clear hS hM; rintro k a w ⟨hk, hS, hM⟩
    refine c_seq ?_
    refine c_region ?_
    refine s_val hS (by decide) rfl rfl (r_bv hS rfl (show ev _ _ = some (N 5) from rfl) gN (b_lssN _ _ _)) ?_; clear hS; intro a hS
    refine s_nil ?_
    refine k_seq ?_
    refine c_seq ?_
    refine c_cond hS rfl (fun hc => ?_) (fun hc => ?_)
    · have hk1 := of_decide_eq_true hc
      refine c_skip ?_
      refine k_seq ?_
      refine c_seq ?_
      refine c_block ?_
      refine c_seq ?_
      refine c_region ?_
      refine s_val hS (by decide) rfl rfl (r_move hS rfl) ?_; clear hS; intro a hS
      refine s_val hS (by decide) rfl rfl (r_assign hS rfl) ?_; clear hS; intro a hS
      refine s_nil ?_
      refine k_seq ?_
      refine c_seq ?_
      refine c_region ?_
      refine s_val hS (by decide) rfl rfl (r_move hS rfl) ?_; clear hS; intro a hS
      refine s_val hS (by decide) rfl rfl (r_move hS rfl) ?_; clear hS; intro a hS
      refine s_val hS (by decide) rfl rfl (r_field0 hS rfl Try.underlying27 rfl (s := 4) sz25 (k := 0) rfl) ?_; clear hS; intro a hS
      refine s_val hS (by decide) rfl rfl (r_index0 hS rfl rfl Try.underlying25 sz24 (by omega)) ?_; clear hS; intro a hS
      refine s_val hS (by decide) rfl rfl (r_load hS hM rfl (j := 1) rfl Try.underlying24 rfl (cells_get (by omega))) ?_; clear hS; intro a hS
      refine s_val hS (by decide) rfl rfl (r_bv hS rfl rfl gU (b_addU _ _ _)) ?_; clear hS; intro a hS
      refine s_val hS (by decide) rfl rfl (r_assign hS rfl) ?_; clear hS; intro a hS
      refine s_nil ?_
      refine k_seq ?_
      refine c_seq ?_
      refine c_region ?_
      refine s_val hS (by decide) rfl rfl (r_move hS rfl) ?_; clear hS; intro a hS
      refine s_val hS (by decide) rfl rfl (r_move hS rfl) ?_; clear hS; intro a hS
      refine s_val hS (by decide) rfl rfl (r_bv hS rfl (show ev _ _ = some (U 2251799813685247#64) from rfl) gU (b_andU _ _ _)) ?_; clear hS; intro a hS
      refine s_val hS (by decide) rfl rfl (r_field0 hS rfl Try.underlying27 rfl (s := 4) sz25 (k := 0) rfl) ?_; clear hS; intro a hS
      refine s_val hS (by decide) rfl rfl (r_index0 hS rfl rfl Try.underlying25 sz24 (by omega)) ?_; clear hS; intro a hS
      refine s_storeU hS hM rfl rfl (j := 1) rfl sz24 (by omega) ?_; clear hS hM; intro a w hS hM
      refine s_nil ?_
      refine k_seq ?_
      refine c_region ?_
      refine s_val hS (by decide) rfl rfl (r_move hS rfl) ?_; clear hS; intro a hS
      refine s_val hS (by decide) rfl rfl (r_bv hS rfl (show ev _ _ = some (.int .u64 ((51 : Nat) : Int)) from rfl) gU (b_shrU _ _ _ 51)) ?_; clear hS; intro a hS
      refine s_val hS (by decide) rfl rfl (r_assign hS rfl) ?_; clear hS; intro a hS
      refine s_nil ?_
      refine k_in ?_
      refine k_seq ?_
      refine c_region ?_
      refine s_val hS (by decide) rfl rfl (r_bv hS rfl (show ev _ _ = some (N 1) from rfl) gN (b_addN _ _ _ (by omega))) ?_; clear hS; intro a hS
      refine s_val hS (by decide) rfl rfl (r_move hS rfl) ?_; clear hS; intro a hS
      refine s_nil ?_
      refine k_then ?_
      refine ⟨k + 1, by omega, by omega, hS.to _ ⟨rfl, rfl, congrArg (fun q => some (U q)) (by rw [leTo_self]; exact chn_step (q_le hc2) hc1 k hk1 _ _ (by rw [chn_bv (q_le hc2) hc1 k (by omega), Nat.add_comm])), rfl, trivial⟩, (hM.congr (by rw [← leTo_step (q_le hc2) hc1 k hk1, leTo_self]; rfl))⟩
    · obtain rfl : k = 5 := (by have := of_decide_eq_false hc; omega); rw [least_cells hx] at hM
      refine c_exit ?_
      refine k_thenx ?_
      refine k_thenx ?_
      refine k_inx ?_
      refine k_seq ?_
      refine c_seq ?_
      refine c_region ?_
      refine s_val hS (by decide) rfl rfl (r_loadAll hS hM rfl (j := 1) rfl Try.underlying27 rfl sz27 cells_len) ?_; clear hS; intro a hS
      refine s_storeAll hS hM rfl rfl (j := 0) rfl sz27 cells_len cells_len cU_one ?_; clear hS hM; intro a w hS hM
      refine s_nil ?_
      refine k_seq ?_
      refine c_ret ?_
      exact k_res1 hS rfl (RV.row rfl (hM.have_ _ (mem_of_get (j := 0) rfl)) Try.underlying27 rfl (by rw [sz27]; exact congrArg some cells_len.symm)) ⟨rfl, hM.done ⟨hb2, hb1, trivial⟩⟩

set_option maxRecDepth 100000 in
theorem bytes_ok (x : Nat → BitVec 64) (hx : Ok x) (w0 : World) : Pure Try.prog 16 #[.agg (cU 5 x).toArray] w0 (.agg (cB 32 (byt (val x % pP))).toArray) := by
  refine ⟨by kernel_rfl, ?_⟩
  refine calls_sym Try.func16 rfl (by kernel_rfl) ?_
  intro a hS
  have hM : Mem w0 w0 [] := Mem.refl w0
  refine c_seq ?_
  refine c_region ?_
  refine s_box hS hM (by decide) rfl rfl ?_; clear hS hM; intro a b1 w hb1 hS hM
  refine s_alloc hS hM (by decide) zero22 ?_; clear hS hM; intro a b2 w hb2 hS hM
  refine s_nil ?_
  refine k_seq ?_
  refine c_seq ?_
  refine c_region ?_
  refine s_val hS (by decide) rfl rfl (r_loadAll hS hM rfl (j := 1) rfl Try.underlying27 rfl sz27 cells_len) ?_; clear hS; intro a hS
  refine s_pure hS hM (by decide) rfl (least_ok _ (by assumption) _) ?_; clear hS hM; intro a w hS hM
  refine s_storeAll hS hM rfl rfl (j := 1) rfl sz27 cells_len cells_len cU_one ?_; clear hS hM; intro a w hS hM
  refine s_nil ?_
  refine k_seq ?_
  refine c_seq ?_
  refine c_region ?_
  refine s_alloc hS hM (by decide) zero22 ?_; clear hS hM; intro a b3 w hb3 hS hM
  refine s_nil ?_
  refine k_seq ?_
  refine c_seq ?_
  refine c_seq ?_
  refine c_region ?_
  refine s_val hS (by decide) rfl rfl (r_move hS (show ev _ _ = some (N 0) from rfl)) ?_; clear hS; intro a hS
  refine s_nil ?_
  refine k_seq ?_
  refine c_block ?_
  refine c_loop (σ := Nat) (fun k a w => (k ≤ 255) ∧ Slots a 31 (env [(1, ptr b1 0), (2, ptr b2 0), (3, ptr b3 0), (7, N k)]) ∧ Mem w0 w ([⟨b3, 22, cB 32 (byt ((val x % pP) % 2 ^ k))⟩, ⟨b2, 22, cB 32 (fun _ => 0)⟩, ⟨b1, 27, cU 5 (limb51 (val x % pP))⟩])) (fun k => 255 - k) (0) ⟨by omega, hS.to _ ⟨rfl, rfl, rfl, rfl, trivial⟩, (by rw [Nat.pow_zero, Nat.mod_one, byt_zero]; exact hM)⟩ ?_
  clear hS hM; rintro k a w ⟨hk, hS, hM⟩
  refine c_seq ?_
  refine c_region ?_
  refine s_val hS (by decide) rfl rfl (r_bv hS rfl (show ev _ _ = some (N 255) from rfl) gN (b_lssN _ _ _)) ?_; clear hS; intro a hS
  refine s_nil ?_
  refine k_seq ?_
  refine c_seq ?_
  refine c_cond hS rfl (fun hc => ?_) (fun hc => ?_)
  · have hk1 := of_decide_eq_true hc
    refine c_skip ?_
    refine k_seq ?_
    refine c_seq ?_
    refine c_block ?_
    refine c_seq ?_
    refine c_region ?_
    refine s_val hS (by decide) rfl rfl (r_move hS rfl) ?_; clear hS; intro a hS
    refine s_val hS (by decide) rfl rfl (r_assign hS rfl) ?_; clear hS; intro a hS
    refine s_nil ?_
    refine k_seq ?_
    refine c_plan 19 (fun w => Mem w0 w _) [(4, _), (3, _), (1, _), (2, _), (7, _), (8, _), (9, _)] (by kernel_rfl) (by kernel_rfl) hS ⟨rfl, rfl, rfl, rfl, rfl, rfl, rfl, trivial⟩ (hM.drawn _) ?_; clear hS hM
    refine p_step rfl (fun a w hS hM => y_val rfl (r_move hS rfl)) ?_
    refine p_step rfl (fun a w hS hM => y_val rfl (r_bv hS rfl (show ev _ _ = some (N 8) from rfl) gN (b_quoN _ _ _ (by omega) (by omega)))) ?_
    refine p_step rfl (fun a w hS hM => y_val rfl (r_index0 hS rfl rfl Try.underlying22 sz5 (by omega))) ?_
    refine p_step rfl (fun a w hS hM => y_val rfl (r_load hS hM rfl (j := 0) rfl Try.underlying5 rfl (cells_get (by omega)))) ?_
    refine p_step rfl (fun a w hS hM => y_val rfl (r_move hS rfl)) ?_
    refine p_step rfl (fun a w hS hM => y_val rfl (r_bv hS rfl (show ev _ _ = some (N 51) from rfl) gN (b_quoN _ _ _ (by omega) (by omega)))) ?_
    refine p_step rfl (fun a w hS hM => y_val rfl (r_field0 hS rfl Try.underlying27 rfl (s := 4) sz25 (k := 0) rfl)) ?_
    refine p_step rfl (fun a w hS hM => y_val rfl (r_index0 hS rfl rfl Try.underlying25 sz24 (by omega))) ?_
    refine p_step rfl (fun a w hS hM => y_val rfl (r_load hS hM rfl (j := 2) rfl Try.underlying24 rfl (cells_get (by omega)))) ?_
    refine p_step rfl (fun a w hS hM => y_val rfl (r_move hS rfl)) ?_
    refine p_step rfl (fun a w hS hM => y_val rfl (r_bv hS rfl (show ev _ _ = some (N 51) from rfl) gN (b_remN _ _ _ (by omega)))) ?_
    refine p_step rfl (fun a w hS hM => y_val rfl (r_bv hS rfl rfl gU (b_shrU _ _ _ _))) ?_
    refine p_step rfl (fun a w hS hM => y_val rfl (r_bv hS rfl (show ev _ _ = some (U 1#64) from rfl) gU (b_andU _ _ _))) ?_
    refine p_step rfl (fun a w hS hM => y_val rfl (r_conv hS rfl (by kernel_rfl) Try.underlying5 (cv_UB _))) ?_
    refine p_step rfl (fun a w hS hM => y_val rfl (r_move hS rfl)) ?_
    refine p_step rfl (fun a w hS hM => y_val rfl (r_bv hS rfl (show ev _ _ = some (N 8) from rfl) gN (b_remN _ _ _ (by omega)))) ?_
    refine p_step rfl (fun a w hS hM => y_val rfl (r_bv hS rfl rfl gB (b_shlB _ _ _ _))) ?_
    refine p_step rfl (fun a w hS hM => y_val rfl (r_bv hS rfl rfl gB (b_orB _ _ _))) ?_
    refine p_step rfl (fun a w hS hM => y_val rfl (r_index0 hS rfl rfl Try.underlying22 sz5 (by omega))) ?_
    refine p_nil rfl ?_; intro a w hS hM
    refine s_storeB hS hM rfl rfl (j := 0) rfl sz5 (by omega) ?_; clear hS hM; intro a w hS hM
    refine s_nil ?_
    refine k_in ?_
    refine k_seq ?_
    refine c_region ?_
    refine s_val hS (by decide) rfl rfl (r_bv hS rfl (show ev _ _ = some (N 1) from rfl) gN (b_addN _ _ _ (by omega))) ?_; clear hS; intro a hS
    refine s_val hS (by decide) rfl rfl (r_move hS rfl) ?_; clear hS; intro a hS
    refine s_nil ?_
    refine k_then ?_
    refine ⟨k + 1, by omega, by omega, hS.to _ ⟨rfl, rfl, rfl, rfl, trivial⟩, (hM.congr (by rw [← bytes_step]; rfl))⟩
  · obtain rfl : k = 255 := (by have := of_decide_eq_false hc; omega); rw [Nat.mod_eq_of_lt (val_lt255 x)] at hM
    refine c_exit ?_
    refine k_thenx ?_
    refine k_thenx ?_
    refine k_inx ?_
    refine k_seq ?_
    refine c_seq ?_
    refine c_region ?_
    refine s_val hS (by decide) rfl rfl (r_loadAll hS hM rfl (j := 0) rfl Try.underlying22 rfl sz22 cells_len) ?_; clear hS; intro a hS
    refine s_storeAll hS hM rfl rfl (j := 1) rfl sz22 cells_len cells_len cB_one ?_; clear hS hM; intro a w hS hM
    refine s_nil ?_
    refine k_seq ?_
    refine c_ret ?_
    exact k_res1 hS rfl (RV.row rfl (hM.have_ _ (mem_of_get (j := 1) rfl)) Try.underlying22 rfl (by rw [sz22]; exact congrArg some cells_len.symm)) ⟨rfl, hM.done ⟨hb3, hb2, hb1, trivial⟩⟩

set_option maxRecDepth 100000 in
theorem from_ok (f : Nat → BitVec 8) (w0 : World) : Pure Try.prog 15 #[.agg (cB 32 f).toArray] w0 (.agg (cU 5 (limb51 (natB f 32))).toArray) := by
  refine ⟨by kernel_rfl, ?_⟩
  refine calls_sym Try.func15 rfl (by kernel_rfl) ?_
  intro a hS
  have hM : Mem w0 w0 [] := Mem.refl w0
  refine c_seq ?_
  refine c_region ?_
  refine s_box hS hM (by decide) rfl rfl ?_; clear hS hM; intro a b1 w hb1 hS hM
  refine s_alloc hS hM (by decide) zero27 ?_; clear hS hM; intro a b2 w hb2 hS hM
  refine s_nil ?_
  refine k_seq ?_
  refine c_seq ?_
  refine c_region ?_
  refine s_alloc hS hM (by decide) zero60 ?_; clear hS hM; intro a b3 w hb3 hS hM
  refine s_nil ?_
  refine k_seq ?_
  refine c_seq ?_
  refine c_seq ?_
  refine c_region ?_
  refine s_val hS (by decide) rfl rfl (r_loadAll hS hM rfl (j := 2) rfl Try.underlying22 rfl sz22 cells_len) ?_; clear hS; intro a hS
  refine s_val hS (by decide) rfl rfl (r_move hS (show ev _ _ = some (N 0) from rfl)) ?_; clear hS; intro a hS
  refine s_nil ?_
  refine k_seq ?_
  refine c_block ?_
  refine c_loop (σ := Nat) (fun k a w => (k ≤ 32) ∧ Slots a 57 (env [(2, ptr b2 0), (3, ptr b3 0), (6, .agg (cB 32 f).toArray), (7, N k)]) ∧ Mem w0 w ([⟨b3, 60, cU 4 (limb (natB f k))⟩, ⟨b2, 27, cU 5 (fun _ => 0)⟩, ⟨b1, 22, cB 32 f⟩])) (fun k => 32 - k) (0) ⟨by omega, hS.to _ ⟨rfl, rfl, rfl, rfl, trivial⟩, (by rw [show limb (natB f 0) = fun _ => 0 from limb_zero]; exact hM)⟩ ?_
  clear hS hM; rintro k a w ⟨hk, hS, hM⟩
  refine c_seq ?_
  refine c_region ?_
  refine s_val hS (by decide) rfl rfl (r_bv hS rfl (show ev _ _ = some (N 32) from rfl) gN (b_lssN _ _ _)) ?_; clear hS; intro a hS
  refine s_nil ?_
  refine k_seq ?_
  refine c_seq ?_
  refine c_cond hS rfl (fun hc => ?_) (fun hc => ?_)
  · have hk1 := of_decide_eq_true hc
    refine c_skip ?_
    refine k_seq ?_
    refine c_seq ?_
    refine c_block ?_
    refine c_seq ?_
    refine c_region ?_
    refine s_val hS (by decide) rfl rfl (r_move hS rfl) ?_; clear hS; intro a hS
    refine s_val hS (by decide) rfl rfl (r_index hS rfl rfl Try.underlying22 sz5 Try.underlying5 rfl (by omega) (cells_get' (by omega))) ?_; clear hS; intro a hS
    refine s_val hS (by decide) rfl rfl (r_assign hS rfl) ?_; clear hS; intro a hS
    refine s_val hS (by decide) rfl rfl (r_assign hS rfl) ?_; clear hS; intro a hS
    refine s_nil ?_
    refine k_seq ?_
    refine c_plan 12 (fun w => Mem w0 w _) [(4, _), (3, _), (5, _), (2, _), (6, _), (7, _), (8, _), (9, _), (10, _)] (by kernel_rfl) (by kernel_rfl) hS ⟨rfl, rfl, rfl, rfl, rfl, rfl, rfl, rfl, rfl, trivial⟩ (hM.drawn _) ?_; clear hS hM
    refine p_step rfl (fun a w hS hM => y_val rfl (r_move hS rfl)) ?_
    refine p_step rfl (fun a w hS hM => y_val rfl (r_bv hS rfl (show ev _ _ = some (N 8) from rfl) gN (b_quoN _ _ _ (by omega) (by omega)))) ?_
    refine p_step rfl (fun a w hS hM => y_val rfl (r_index0 hS rfl rfl Try.underlying60 sz24 (by omega))) ?_
    refine p_step rfl (fun a w hS hM => y_val rfl (r_load hS hM rfl (j := 0) rfl Try.underlying24 rfl (cells_get (by omega)))) ?_
    refine p_step rfl (fun a w hS hM => y_val rfl (r_move hS rfl)) ?_
    refine p_step rfl (fun a w hS hM => y_val rfl (r_conv hS rfl (by kernel_rfl) Try.underlying24 (cv_BU _))) ?_
    refine p_step rfl (fun a w hS hM => y_val rfl (r_move hS rfl)) ?_
    refine p_step rfl (fun a w hS hM => y_val rfl (r_bv hS rfl (show ev _ _ = some (N 8) from rfl) gN (b_remN _ _ _ (by omega)))) ?_
    refine p_step rfl (fun a w hS hM => y_val rfl (r_bv hS rfl (show ev _ _ = some (N 8) from rfl) gN (b_mulN _ _ _ (by omega)))) ?_
    refine p_step rfl (fun a w hS hM => y_val rfl (r_bv hS rfl rfl gU (b_shlU _ _ _ _))) ?_
    refine p_step rfl (fun a w hS hM => y_val rfl (r_bv hS rfl rfl gU (b_orU _ _ _))) ?_
    refine p_step rfl (fun a w hS hM => y_val rfl (r_index0 hS rfl rfl Try.underlying60 sz24 (by omega))) ?_
    refine p_nil rfl ?_; intro a w hS hM
    refine s_storeU hS hM rfl rfl (j := 0) rfl sz24 (by omega) ?_; clear hS hM; intro a w hS hM
    refine s_nil ?_
    refine k_in ?_
    refine k_seq ?_
    refine c_region ?_
    refine s_val hS (by decide) rfl rfl (r_bv hS rfl (show ev _ _ = some (N 1) from rfl) gN (b_addN _ _ _ (by omega))) ?_; clear hS; intro a hS
    refine s_val hS (by decide) rfl rfl (r_move hS rfl) ?_; clear hS; intro a hS
    refine s_nil ?_
    refine k_then ?_
    refine ⟨k + 1, by omega, by omega, hS.to _ ⟨rfl, rfl, rfl, rfl, trivial⟩, (hM.congr (by rw [← of_step]; rfl))⟩
  · obtain rfl : k = 32 := by have := of_decide_eq_false hc; omega
    refine c_exit ?_
    refine k_thenx ?_
    refine k_thenx ?_
    refine k_inx ?_
    refine k_seq ?_
    refine c_seq ?_
    refine c_region ?_
    refine s_val hS (by decide) rfl rfl (r_index0 hS rfl (show ev _ _ = some (.int .i64 ((0 : Nat) : Int)) from rfl) Try.underlying60 sz24 (by decide)) ?_; clear hS; intro a hS
    refine s_val hS (by decide) rfl rfl (r_load hS hM rfl (j := 0) rfl Try.underlying24 rfl (cells_get (by omega))) ?_; clear hS; intro a hS
    refine s_val hS (by decide) rfl rfl (r_bv hS rfl (show ev _ _ = some (U 2251799813685247#64) from rfl) gU (b_andU _ _ _)) ?_; clear hS; intro a hS
    refine s_val hS (by decide) rfl rfl (r_index0 hS rfl (show ev _ _ = some (.int .i64 ((0 : Nat) : Int)) from rfl) Try.underlying60 sz24 (by decide)) ?_; clear hS; intro a hS
    refine s_val hS (by decide) rfl rfl (r_load hS hM rfl (j := 0) rfl Try.underlying24 rfl (cells_get (by omega))) ?_; clear hS; intro a hS
    refine s_val hS (by decide) rfl rfl (r_bv hS rfl (show ev _ _ = some (.int .u64 ((51 : Nat) : Int)) from rfl) gU (b_shrU _ _ _ 51)) ?_; clear hS; intro a hS
    refine s_val hS (by decide) rfl rfl (r_index0 hS rfl (show ev _ _ = some (.int .i64 ((1 : Nat) : Int)) from rfl) Try.underlying60 sz24 (by decide)) ?_; clear hS; intro a hS
    refine s_val hS (by decide) rfl rfl (r_load hS hM rfl (j := 0) rfl Try.underlying24 rfl (cells_get (by omega))) ?_; clear hS; intro a hS
    refine s_val hS (by decide) rfl rfl (r_bv hS rfl (show ev _ _ = some (.int .u64 ((13 : Nat) : Int)) from rfl) gU (b_shlU _ _ _ 13)) ?_; clear hS; intro a hS
    refine s_val hS (by decide) rfl rfl (r_bv hS rfl rfl gU (b_orU _ _ _)) ?_; clear hS; intro a hS
    refine s_val hS (by decide) rfl rfl (r_bv hS rfl (show ev _ _ = some (U 2251799813685247#64) from rfl) gU (b_andU _ _ _)) ?_; clear hS; intro a hS
    refine s_val hS (by decide) rfl rfl (r_index0 hS rfl (show ev _ _ = some (.int .i64 ((1 : Nat) : Int)) from rfl) Try.underlying60 sz24 (by decide)) ?_; clear hS; intro a hS
    refine s_val hS (by decide) rfl rfl (r_load hS hM rfl (j := 0) rfl Try.underlying24 rfl (cells_get (by omega))) ?_; clear hS; intro a hS
    refine s_val hS (by decide) rfl rfl (r_bv hS rfl (show ev _ _ = some (.int .u64 ((38 : Nat) : Int)) from rfl) gU (b_shrU _ _ _ 38)) ?_; clear hS; intro a hS
    refine s_val hS (by decide) rfl rfl (r_index0 hS rfl (show ev _ _ = some (.int .i64 ((2 : Nat) : Int)) from rfl) Try.underlying60 sz24 (by decide)) ?_; clear hS; intro a hS
    refine s_val hS (by decide) rfl rfl (r_load hS hM rfl (j := 0) rfl Try.underlying24 rfl (cells_get (by omega))) ?_; clear hS; intro a hS
    refine s_val hS (by decide) rfl rfl (r_bv hS rfl (show ev _ _ = some (.int .u64 ((26 : Nat) : Int)) from rfl) gU (b_shlU _ _ _ 26)) ?_; clear hS; intro a hS
    refine s_val hS (by decide) rfl rfl (r_bv hS rfl rfl gU (b_orU _ _ _)) ?_; clear hS; intro a hS
    refine s_val hS (by decide) rfl rfl (r_bv hS rfl (show ev _ _ = some (U 2251799813685247#64) from rfl) gU (b_andU _ _ _)) ?_; clear hS; intro a hS
    refine s_val hS (by decide) rfl rfl (r_index0 hS rfl (show ev _ _ = some (.int .i64 ((2 : Nat) : Int)) from rfl) Try.underlying60 sz24 (by decide)) ?_; clear hS; intro a hS
    refine s_val hS (by decide) rfl rfl (r_load hS hM rfl (j := 0) rfl Try.underlying24 rfl (cells_get (by omega))) ?_; clear hS; intro a hS
    refine s_val hS (by decide) rfl rfl (r_bv hS rfl (show ev _ _ = some (.int .u64 ((25 : Nat) : Int)) from rfl) gU (b_shrU _ _ _ 25)) ?_; clear hS; intro a hS
    refine s_val hS (by decide) rfl rfl (r_index0 hS rfl (show ev _ _ = some (.int .i64 ((3 : Nat) : Int)) from rfl) Try.underlying60 sz24 (by decide)) ?_; clear hS; intro a hS
    refine s_val hS (by decide) rfl rfl (r_load hS hM rfl (j := 0) rfl Try.underlying24 rfl (cells_get (by omega))) ?_; clear hS; intro a hS
    refine s_val hS (by decide) rfl rfl (r_bv hS rfl (show ev _ _ = some (.int .u64 ((39 : Nat) : Int)) from rfl) gU (b_shlU _ _ _ 39)) ?_; clear hS; intro a hS
    refine s_val hS (by decide) rfl rfl (r_bv hS rfl rfl gU (b_orU _ _ _)) ?_; clear hS; intro a hS
    refine s_val hS (by decide) rfl rfl (r_bv hS rfl (show ev _ _ = some (U 2251799813685247#64) from rfl) gU (b_andU _ _ _)) ?_; clear hS; intro a hS
    refine s_val hS (by decide) rfl rfl (r_index0 hS rfl (show ev _ _ = some (.int .i64 ((3 : Nat) : Int)) from rfl) Try.underlying60 sz24 (by decide)) ?_; clear hS; intro a hS
    refine s_val hS (by decide) rfl rfl (r_load hS hM rfl (j := 0) rfl Try.underlying24 rfl (cells_get (by omega))) ?_; clear hS; intro a hS
    refine s_val hS (by decide) rfl rfl (r_bv hS rfl (show ev _ _ = some (.int .u64 ((12 : Nat) : Int)) from rfl) gU (b_shrU _ _ _ 12)) ?_; clear hS; intro a hS
    refine s_val hS (by decide) rfl rfl (r_bv hS rfl (show ev _ _ = some (U 2251799813685247#64) from rfl) gU (b_andU _ _ _)) ?_; clear hS; intro a hS
    refine s_val hS (by decide) rfl rfl (r_build hS (vs := [(0, U _), (1, U _), (2, U _), (3, U _), (4, U _)]) rfl (build25 _ _ _ _ _)) ?_; clear hS; intro a hS
    refine s_val hS (by decide) rfl rfl (r_build hS (vs := [(0, .agg (cU 5 _).toArray)]) rfl (bld27 _)) ?_; clear hS; intro a hS
    refine s_storeAll hS hM rfl rfl (j := 1) rfl sz27 cells_len cells_len cU_one ?_; clear hS hM; intro a w hS hM
    rw [from_cells] at hM
    refine s_nil ?_
    refine k_seq ?_
    refine c_ret ?_
    exact k_res1 hS rfl (RV.row rfl (hM.have_ _ (mem_of_get (j := 1) rfl)) Try.underlying27 rfl (by rw [sz27]; exact congrArg some cells_len.symm)) ⟨rfl, hM.done ⟨hb3, hb2, hb1, trivial⟩⟩

set_option maxRecDepth 100000 in
theorem small_ok (n : BitVec 64) (w0 : World) : Pure Try.prog 20 #[U n] w0 (.agg (cU 5 (limb51 n.toNat)).toArray) := by
  refine ⟨by kernel_rfl, ?_⟩
  refine calls_sym Try.func20 rfl (by kernel_rfl) ?_
  intro a hS
  have hM : Mem w0 w0 [] := Mem.refl w0
  refine c_seq ?_
  refine c_region ?_
  refine s_alloc hS hM (by decide) zero27 ?_; clear hS hM; intro a b2 w hb2 hS hM
  refine s_nil ?_
  refine k_seq ?_
  refine c_seq ?_
  refine c_region ?_
  refine s_val hS (by decide) rfl rfl (r_move hS rfl) ?_; clear hS; intro a hS
  refine s_val hS (by decide) rfl rfl (r_bv hS rfl (show ev _ _ = some (U 2251799813685247#64) from rfl) gU (b_andU _ _ _)) ?_; clear hS; intro a hS
  refine s_val hS (by decide) rfl rfl (r_move hS rfl) ?_; clear hS; intro a hS
  refine s_val hS (by decide) rfl rfl (r_bv hS rfl (show ev _ _ = some (.int .u64 ((51 : Nat) : Int)) from rfl) gU (b_shrU _ _ _ 51)) ?_; clear hS; intro a hS
  refine s_val hS (by decide) rfl rfl (r_build hS (vs := [(0, U _), (1, U _)]) rfl (build25_2 _ _)) ?_; clear hS; intro a hS
  refine s_val hS (by decide) rfl rfl (r_build hS (vs := [(0, .agg (cU 5 _).toArray)]) rfl (bld27 _)) ?_; clear hS; intro a hS
  refine s_storeAll hS hM rfl rfl (j := 0) rfl sz27 cells_len cells_len cU_one ?_; clear hS hM; intro a w hS hM
  rw [small_cells] at hM
  refine s_nil ?_
  refine k_seq ?_
  refine c_ret ?_
  exact k_res1 hS rfl (RV.row rfl (hM.have_ _ (mem_of_get (j := 0) rfl)) Try.underlying27 rfl (by rw [sz27]; exact congrArg some cells_len.symm)) ⟨rfl, hM.done ⟨hb2, trivial⟩⟩

set_option maxRecDepth 100000 in
theorem add_ok (x y : Nat → BitVec 64) (w0 : World) : Pure Try.prog 19 #[.agg (cU 5 x).toArray, .agg (cU 5 y).toArray] w0 (.agg (cU 5 (feAdd x y)).toArray) := by
  refine ⟨by kernel_rfl, ?_⟩
  refine calls_sym Try.func19 rfl (by kernel_rfl) ?_
  intro a hS
  have hM : Mem w0 w0 [] := Mem.refl w0
  refine c_seq ?_
  refine c_region ?_
  refine s_box hS hM (by decide) rfl rfl ?_; clear hS hM; intro a b2 w hb2 hS hM
  refine s_box hS hM (by decide) rfl rfl ?_; clear hS hM; intro a b3 w hb3 hS hM
  refine s_alloc hS hM (by decide) zero27 ?_; clear hS hM; intro a b4 w hb4 hS hM
  refine s_nil ?_
  refine k_seq ?_
  refine c_seq ?_
  refine c_seq ?_
  refine c_region ?_
  refine s_val hS (by decide) rfl rfl (r_field0 hS rfl Try.underlying27 rfl (s := 4) sz25 (k := 0) rfl) ?_; clear hS; intro a hS
  refine s_val hS (by decide) rfl rfl (r_loadAll hS hM rfl (j := 1) rfl Try.underlying25 rfl sz25 cells_len) ?_; clear hS; intro a hS
  refine s_val hS (by decide) rfl rfl (r_move hS (show ev _ _ = some (N 0) from rfl)) ?_; clear hS; intro a hS
  refine s_nil ?_
  refine k_seq ?_
  refine c_block ?_
  refine c_loop (σ := Nat) (fun k a w => (k ≤ 5) ∧ Slots a 24 (env [(2, ptr b2 0), (4, ptr b4 0), (8, .agg (cU 5 y).toArray), (9, N k)]) ∧ Mem w0 w ([⟨b4, 27, cU 5 (fun _ => 0)⟩, ⟨b3, 27, cU 5 y⟩, ⟨b2, 27, cU 5 (mapTo x (fun i => x i + y i) k)⟩])) (fun k => 5 - k) (0) ⟨by omega, hS.to _ ⟨rfl, rfl, rfl, rfl, trivial⟩, (by rw [mapTo_zero]; exact hM)⟩ ?_
  clear hS hM; rintro k a w ⟨hk, hS, hM⟩
  refine c_seq ?_
  refine c_region ?_
  refine s_val hS (by decide) rfl rfl (r_bv hS rfl (show ev _ _ = some (N 5) from rfl) gN (b_lssN _ _ _)) ?_; clear hS; intro a hS
  refine s_nil ?_
  refine k_seq ?_
  refine c_seq ?_
  refine c_cond hS rfl (fun hc => ?_) (fun hc => ?_)
  · have hk1 := of_decide_eq_true hc
    refine c_skip ?_
    refine k_seq ?_
    refine c_seq ?_
    refine c_block ?_
    refine c_seq ?_
    refine c_region ?_
    refine s_val hS (by decide) rfl rfl (r_move hS rfl) ?_; clear hS; intro a hS
    refine s_val hS (by decide) rfl rfl (r_index hS rfl rfl Try.underlying25 sz24 Try.underlying24 rfl (by omega) (cells_get' (by omega))) ?_; clear hS; intro a hS
    refine s_val hS (by decide) rfl rfl (r_assign hS rfl) ?_; clear hS; intro a hS
    refine s_val hS (by decide) rfl rfl (r_assign hS rfl) ?_; clear hS; intro a hS
    refine s_nil ?_
    refine k_seq ?_
    refine c_region ?_
    refine s_val hS (by decide) rfl rfl (r_move hS rfl) ?_; clear hS; intro a hS
    refine s_val hS (by decide) rfl rfl (r_field0 hS rfl Try.underlying27 rfl (s := 4) sz25 (k := 0) rfl) ?_; clear hS; intro a hS
    refine s_val hS (by decide) rfl rfl (r_index0 hS rfl rfl Try.underlying25 sz24 (by omega)) ?_; clear hS; intro a hS
    refine s_val hS (by decide) rfl rfl (r_load hS hM rfl (j := 2) rfl Try.underlying24 rfl (cells_get (by omega))) ?_; clear hS; intro a hS
    refine s_val hS (by decide) rfl rfl (r_move hS rfl) ?_; clear hS; intro a hS
    refine s_val hS (by decide) rfl rfl (r_bv hS rfl rfl gU (b_addU _ _ _)) ?_; clear hS; intro a hS
    refine s_val hS (by decide) rfl rfl (r_field0 hS rfl Try.underlying27 rfl (s := 4) sz25 (k := 0) rfl) ?_; clear hS; intro a hS
    refine s_val hS (by decide) rfl rfl (r_index0 hS rfl rfl Try.underlying25 sz24 (by omega)) ?_; clear hS; intro a hS
    refine s_storeU hS hM rfl rfl (j := 2) rfl sz24 (by omega) ?_; clear hS hM; intro a w hS hM
    refine s_nil ?_
    refine k_in ?_
    refine k_seq ?_
    refine c_region ?_
    refine s_val hS (by decide) rfl rfl (r_bv hS rfl (show ev _ _ = some (N 1) from rfl) gN (b_addN _ _ _ (by omega))) ?_; clear hS; intro a hS
    refine s_val hS (by decide) rfl rfl (r_move hS rfl) ?_; clear hS; intro a hS
    refine s_nil ?_
    refine k_then ?_
    refine ⟨k + 1, by omega, by omega, hS.to _ ⟨rfl, rfl, rfl, rfl, trivial⟩, (hM.congr (by rw [← mapTo_step, mapTo_self]; rfl))⟩
  · obtain rfl : k = 5 := (by have := of_decide_eq_false hc; omega); rw [cU_mapTo] at hM
    refine c_exit ?_
    refine k_thenx ?_
    refine k_thenx ?_
    refine k_inx ?_
    refine k_seq ?_
    refine c_seq ?_
    refine c_region ?_
    refine s_val hS (by decide) rfl rfl (r_loadAll hS hM rfl (j := 2) rfl Try.underlying27 rfl sz27 cells_len) ?_; clear hS; intro a hS
    refine s_pure hS hM (by decide) rfl (carry_ok _ _) ?_; clear hS hM; intro a w hS hM
    refine s_storeAll hS hM rfl rfl (j := 0) rfl sz27 cells_len cells_len cU_one ?_; clear hS hM; intro a w hS hM
    refine s_nil ?_
    refine k_seq ?_
    refine c_ret ?_
    exact k_res1 hS rfl (RV.row rfl (hM.have_ _ (mem_of_get (j := 0) rfl)) Try.underlying27 rfl (by rw [sz27]; exact congrArg some cells_len.symm)) ⟨rfl, hM.done ⟨hb4, hb3, hb2, trivial⟩⟩

set_option maxRecDepth 100000 in
theorem sub_ok (x y : Nat → BitVec 64) (w0 : World) : Pure Try.prog 23 #[.agg (cU 5 x).toArray, .agg (cU 5 y).toArray] w0 (.agg (cU 5 (feSub x y)).toArray) := by
  refine ⟨by kernel_rfl, ?_⟩
  refine calls_sym Try.func23 rfl (by kernel_rfl) ?_
  intro a hS
  have hM : Mem w0 w0 [] := Mem.refl w0
  refine c_seq ?_
  refine c_region ?_
  refine s_box hS hM (by decide) rfl rfl ?_; clear hS hM; intro a b2 w hb2 hS hM
  refine s_box hS hM (by decide) rfl rfl ?_; clear hS hM; intro a b3 w hb3 hS hM
  refine s_alloc hS hM (by decide) zero27 ?_; clear hS hM; intro a b4 w hb4 hS hM
  refine s_nil ?_
  refine k_seq ?_
  refine c_seq ?_
  refine c_region ?_
  refine s_val hS (by decide) rfl rfl (r_field0 hS rfl Try.underlying27 rfl (s := 4) sz25 (k := 0) rfl) ?_; clear hS; intro a hS
  refine s_val hS (by decide) rfl rfl (r_index0 hS rfl (show ev _ _ = some (.int .i64 ((0 : Nat) : Int)) from rfl) Try.underlying25 sz24 (by decide)) ?_; clear hS; intro a hS
  refine s_val hS (by decide) rfl rfl (r_load hS hM rfl (j := 2) rfl Try.underlying24 rfl (cells_get (by omega))) ?_; clear hS; intro a hS
  refine s_val hS (by decide) rfl rfl (r_bv hS rfl (show ev _ _ = some (U 4503599627370458#64) from rfl) gU (b_addU _ _ _)) ?_; clear hS; intro a hS
  refine s_val hS (by decide) rfl rfl (r_field0 hS rfl Try.underlying27 rfl (s := 4) sz25 (k := 0) rfl) ?_; clear hS; intro a hS
  refine s_val hS (by decide) rfl rfl (r_index0 hS rfl (show ev _ _ = some (.int .i64 ((0 : Nat) : Int)) from rfl) Try.underlying25 sz24 (by decide)) ?_; clear hS; intro a hS
  refine s_storeU hS hM rfl rfl (j := 2) rfl sz24 (by omega) ?_; clear hS hM; intro a w hS hM
  refine s_nil ?_
  refine k_seq ?_
  refine c_seq ?_
  refine c_seq ?_
  refine c_region ?_
  refine s_val hS (by decide) rfl rfl (r_assign hS (show ev _ _ = some (N 1) from rfl)) ?_; clear hS; intro a hS
  refine s_nil ?_
  refine k_seq ?_
  refine c_block ?_
  refine c_loop (σ := Nat) (fun k a w => (1 ≤ k ∧ k ≤ 5) ∧ Slots a 42 (env [(2, ptr b2 0), (3, ptr b3 0), (4, ptr b4 0), (5, N k)]) ∧ Mem w0 w ([⟨b4, 27, cU 5 (fun _ => 0)⟩, ⟨b3, 27, cU 5 y⟩, ⟨b2, 27, cU 5 (mapTo x (fun i => x i + subP i) k)⟩])) (fun k => 5 - k) (1) ⟨by omega, hS.to _ ⟨rfl, rfl, rfl, rfl, trivial⟩, (by rw [mapTo_one]; exact hM)⟩ ?_
  clear hS hM; rintro k a w ⟨hk, hS, hM⟩
  refine c_seq ?_
  refine c_seq ?_
  refine c_region ?_
  refine s_val hS (by decide) rfl rfl (r_move hS rfl) ?_; clear hS; intro a hS
  refine s_val hS (by decide) rfl rfl (r_bv hS rfl (show ev _ _ = some (N 5) from rfl) gN (b_lssN _ _ _)) ?_; clear hS; intro a hS
  refine s_nil ?_
  refine k_seq ?_
  refine c_cond hS rfl (fun hc => ?_) (fun hc => ?_)
  · have hk1 := of_decide_eq_true hc
    refine c_skip ?_
    refine k_seq ?_
    refine c_seq ?_
    refine c_block ?_
    refine c_region ?_
    refine s_val hS (by decide) rfl rfl (r_move hS rfl) ?_; clear hS; intro a hS
    refine s_val hS (by decide) rfl rfl (r_field0 hS rfl Try.underlying27 rfl (s := 4) sz25 (k := 0) rfl) ?_; clear hS; intro a hS
    refine s_val hS (by decide) rfl rfl (r_index0 hS rfl rfl Try.underlying25 sz24 (by omega)) ?_; clear hS; intro a hS
    refine s_val hS (by decide) rfl rfl (r_load hS hM rfl (j := 2) rfl Try.underlying24 rfl (cells_get (by omega))) ?_; clear hS; intro a hS
    refine s_val hS (by decide) rfl rfl (r_bv hS rfl (show ev _ _ = some (U 4503599627370494#64) from rfl) gU (b_addU _ _ _)) ?_; clear hS; intro a hS
    refine s_val hS (by decide) rfl rfl (r_field0 hS rfl Try.underlying27 rfl (s := 4) sz25 (k := 0) rfl) ?_; clear hS; intro a hS
    refine s_val hS (by decide) rfl rfl (r_index0 hS rfl rfl Try.underlying25 sz24 (by omega)) ?_; clear hS; intro a hS
    refine s_storeU hS hM rfl rfl (j := 2) rfl sz24 (by omega) ?_; clear hS hM; intro a w hS hM
    refine s_nil ?_
    refine k_in ?_
    refine k_seq ?_
    refine c_region ?_
    refine s_val hS (by decide) rfl rfl (r_move hS rfl) ?_; clear hS; intro a hS
    refine s_val hS (by decide) rfl rfl (r_bv hS rfl (show ev _ _ = some (N 1) from rfl) gN (b_addN _ _ _ (by omega))) ?_; clear hS; intro a hS
    refine s_val hS (by decide) rfl rfl (r_assign hS rfl) ?_; clear hS; intro a hS
    refine s_nil ?_
    refine k_then ?_
    refine ⟨k + 1, by omega, by omega, hS.to _ ⟨rfl, rfl, rfl, rfl, trivial⟩, (hM.congr (by rw [← sub_step1 _ _ hk.1]; rfl))⟩
  · obtain rfl : k = 5 := (by have := of_decide_eq_false hc; omega); rw [cU_mapTo] at hM
    refine c_exit ?_
    refine k_thenx ?_
    refine k_thenx ?_
    refine k_inx ?_
    refine k_seq ?_
    refine c_seq ?_
    refine c_seq ?_
    refine c_region ?_
    refine s_val hS (by decide) rfl rfl (r_field0 hS rfl Try.underlying27 rfl (s := 4) sz25 (k := 0) rfl) ?_; clear hS; intro a hS
    refine s_val hS (by decide) rfl rfl (r_loadAll hS hM rfl (j := 1) rfl Try.underlying25 rfl sz25 cells_len) ?_; clear hS; intro a hS
    refine s_val hS (by decide) rfl rfl (r_move hS (show ev _ _ = some (N 0) from rfl)) ?_; clear hS; intro a hS
    refine s_nil ?_
    refine k_seq ?_
    refine c_block ?_
    refine c_loop (σ := Nat) (fun k a w => (k ≤ 5) ∧ Slots a 42 (env [(2, ptr b2 0), (4, ptr b4 0), (26, .agg (cU 5 y).toArray), (27, N k)]) ∧ Mem w0 w ([⟨b4, 27, cU 5 (fun _ => 0)⟩, ⟨b3, 27, cU 5 y⟩, ⟨b2, 27, cU 5 (mapTo (fun i => x i + subP i) (fun i => x i + subP i - y i) k)⟩])) (fun k => 5 - k) (0) ⟨by omega, hS.to _ ⟨rfl, rfl, rfl, rfl, trivial⟩, (by rw [mapTo_zero]; exact hM)⟩ ?_
    clear hS hM; rintro k a w ⟨hk, hS, hM⟩
    refine c_seq ?_
    refine c_region ?_
    refine s_val hS (by decide) rfl rfl (r_bv hS rfl (show ev _ _ = some (N 5) from rfl) gN (b_lssN _ _ _)) ?_; clear hS; intro a hS
    refine s_nil ?_
    refine k_seq ?_
    refine c_seq ?_
    refine c_cond hS rfl (fun hc => ?_) (fun hc => ?_)
    · have hk1 := of_decide_eq_true hc
      refine c_skip ?_
      refine k_seq ?_
      refine c_seq ?_
      refine c_block ?_
      refine c_seq ?_
      refine c_region ?_
      refine s_val hS (by decide) rfl rfl (r_move hS rfl) ?_; clear hS; intro a hS
      refine s_val hS (by decide) rfl rfl (r_index hS rfl rfl Try.underlying25 sz24 Try.underlying24 rfl (by omega) (cells_get' (by omega))) ?_; clear hS; intro a hS
      refine s_val hS (by decide) rfl rfl (r_assign hS rfl) ?_; clear hS; intro a hS
      refine s_val hS (by decide) rfl rfl (r_assign hS rfl) ?_; clear hS; intro a hS
      refine s_nil ?_
      refine k_seq ?_
      refine c_region ?_
      refine s_val hS (by decide) rfl rfl (r_move hS rfl) ?_; clear hS; intro a hS
      refine s_val hS (by decide) rfl rfl (r_field0 hS rfl Try.underlying27 rfl (s := 4) sz25 (k := 0) rfl) ?_; clear hS; intro a hS
      refine s_val hS (by decide) rfl rfl (r_index0 hS rfl rfl Try.underlying25 sz24 (by omega)) ?_; clear hS; intro a hS
      refine s_val hS (by decide) rfl rfl (r_load hS hM rfl (j := 2) rfl Try.underlying24 rfl (cells_get (by omega))) ?_; clear hS; intro a hS
      refine s_val hS (by decide) rfl rfl (r_move hS rfl) ?_; clear hS; intro a hS
      refine s_val hS (by decide) rfl rfl (r_bv hS rfl rfl gU (b_subU _ _ _)) ?_; clear hS; intro a hS
      refine s_val hS (by decide) rfl rfl (r_field0 hS rfl Try.underlying27 rfl (s := 4) sz25 (k := 0) rfl) ?_; clear hS; intro a hS
      refine s_val hS (by decide) rfl rfl (r_index0 hS rfl rfl Try.underlying25 sz24 (by omega)) ?_; clear hS; intro a hS
      refine s_storeU hS hM rfl rfl (j := 2) rfl sz24 (by omega) ?_; clear hS hM; intro a w hS hM
      refine s_nil ?_
      refine k_in ?_
      refine k_seq ?_
      refine c_region ?_
      refine s_val hS (by decide) rfl rfl (r_bv hS rfl (show ev _ _ = some (N 1) from rfl) gN (b_addN _ _ _ (by omega))) ?_; clear hS; intro a hS
      refine s_val hS (by decide) rfl rfl (r_move hS rfl) ?_; clear hS; intro a hS
      refine s_nil ?_
      refine k_then ?_
      refine ⟨k + 1, by omega, by omega, hS.to _ ⟨rfl, rfl, rfl, rfl, trivial⟩, (hM.congr (by rw [← mapTo_step, mapTo_self]; rfl))⟩
    · obtain rfl : k = 5 := (by have := of_decide_eq_false hc; omega); rw [cU_mapTo] at hM
      refine c_exit ?_
      refine k_thenx ?_
      refine k_thenx ?_
      refine k_inx ?_
      refine k_seq ?_
      refine c_seq ?_
      refine c_region ?_
      refine s_val hS (by decide) rfl rfl (r_loadAll hS hM rfl (j := 2) rfl Try.underlying27 rfl sz27 cells_len) ?_; clear hS; intro a hS
      refine s_pure hS hM (by decide) rfl (carry_ok _ _) ?_; clear hS hM; intro a w hS hM
      refine s_storeAll hS hM rfl rfl (j := 0) rfl sz27 cells_len cells_len cU_one ?_; clear hS hM; intro a w hS hM
      refine s_nil ?_
      refine k_seq ?_
      refine c_ret ?_
      exact k_res1 hS rfl (RV.row rfl (hM.have_ _ (mem_of_get (j := 0) rfl)) Try.underlying27 rfl (by rw [sz27]; exact congrArg some cells_len.symm)) ⟨rfl, hM.done ⟨hb4, hb3, hb2, trivial⟩⟩

set_option maxRecDepth 100000 in
theorem long_ok (w0 : World) (b o : Nat) (f : Nat → BitVec 64) (hb : w0.heap[b]? = some (.cells (cU 10 f).toArray 65 (0, 0))) (ho : o + 1 < 10) (x y : BitVec 64) : Wrote Try.prog 49 #[ptr b o, U x, U y] w0 b 65 (cU 10 (addG f o x y)) (.tuple #[]) := by
  refine ⟨by kernel_rfl, ?_⟩
  refine calls_sym Try.func49 rfl (by kernel_rfl) ?_
  intro a hS
  have hM : Mem w0 w0 [⟨b, 65, cU 10 f⟩] := Mem.start hb
  refine c_seq ?_
  refine c_region ?_
  refine s_val hS (by decide) rfl rfl (r_move hS rfl) ?_; clear hS; intro a hS
  refine s_val hS (by decide) rfl rfl (r_move hS rfl) ?_; clear hS; intro a hS
  refine s_pure hS hM (by decide) rfl (mul64_ok _ _ _) ?_; clear hS hM; intro a w hS hM
  refine s_val hS (by decide) rfl rfl (r_move hS rfl) ?_; clear hS; intro a hS
  refine s_val hS (by decide) rfl rfl (r_extract hS rfl rfl) ?_; clear hS; intro a hS
  refine s_val hS (by decide) rfl rfl (r_extract hS rfl rfl) ?_; clear hS; intro a hS
  refine s_val hS (by decide) rfl rfl (r_assign hS rfl) ?_; clear hS; intro a hS
  refine s_val hS (by decide) rfl rfl (r_assign hS rfl) ?_; clear hS; intro a hS
  refine s_nil ?_
  refine k_seq ?_
  refine c_seq ?_
  refine c_region ?_
  refine s_val hS (by decide) rfl rfl (r_assign hS (show ev _ _ = some (U 0#64) from rfl)) ?_; clear hS; intro a hS
  refine s_nil ?_
  refine k_seq ?_
  refine c_seq ?_
  refine c_region ?_
  refine s_val hS (by decide) rfl rfl (r_move hS rfl) ?_; clear hS; intro a hS
  refine s_val hS (by decide) rfl rfl (r_move hS rfl) ?_; clear hS; intro a hS
  refine s_val hS (by decide) rfl rfl (r_nilCheck hS rfl) ?_; clear hS; intro a hS
  refine s_val hS (by decide) rfl rfl (r_fieldA hS rfl Try.underlying64 rfl (s := 0) sz24 (k := 1) rfl) ?_; clear hS; intro a hS
  refine s_val hS (by decide) rfl rfl (r_load hS hM rfl (j := 0) rfl Try.underlying24 rfl (cells_get (by omega))) ?_; clear hS; intro a hS
  refine s_val hS (by decide) rfl rfl (r_move hS rfl) ?_; clear hS; intro a hS
  refine s_val hS (by decide) rfl rfl (r_ext ext55 hS (vs := [_, _, U 0#64]) rfl (run_add _ _ _ (by decide))) ?_; clear hS; intro a hS
  refine s_val hS (by decide) rfl rfl (r_move hS rfl) ?_; clear hS; intro a hS
  refine s_val hS (by decide) rfl rfl (r_extract hS rfl rfl) ?_; clear hS; intro a hS
  refine s_val hS (by decide) rfl rfl (r_extract hS rfl rfl) ?_; clear hS; intro a hS
  refine s_val hS (by decide) rfl rfl (r_nilCheck hS rfl) ?_; clear hS; intro a hS
  refine s_val hS (by decide) rfl rfl (r_fieldA hS rfl Try.underlying64 rfl (s := 0) sz24 (k := 1) rfl) ?_; clear hS; intro a hS
  refine s_storeU hS hM rfl rfl (j := 0) rfl sz24 (by omega) ?_; clear hS hM; intro a w hS hM
  refine s_val hS (by decide) rfl rfl (r_assign hS rfl) ?_; clear hS; intro a hS
  refine s_nil ?_
  refine k_seq ?_
  refine c_region ?_
  refine s_val hS (by decide) rfl rfl (r_move hS rfl) ?_; clear hS; intro a hS
  refine s_val hS (by decide) rfl rfl (r_move hS rfl) ?_; clear hS; intro a hS
  refine s_val hS (by decide) rfl rfl (r_nilCheck hS rfl) ?_; clear hS; intro a hS
  refine s_val hS (by decide) rfl rfl (r_fieldZ hS rfl Try.underlying64 rfl (s := 0) sz24 rfl) ?_; clear hS; intro a hS
  refine s_val hS (by decide) rfl rfl (r_load hS hM rfl (j := 0) rfl Try.underlying24 rfl (cells_get (by omega))) ?_; clear hS; intro a hS
  refine s_val hS (by decide) rfl rfl (r_move hS rfl) ?_; clear hS; intro a hS
  refine s_val hS (by decide) rfl rfl (r_move hS rfl) ?_; clear hS; intro a hS
  refine s_val hS (by decide) rfl rfl (r_ext ext55 hS rfl (run_add _ _ _ (cout_le _ _ _ (by decide)))) ?_; clear hS; intro a hS
  refine s_val hS (by decide) rfl rfl (r_move hS rfl) ?_; clear hS; intro a hS
  refine s_val hS (by decide) rfl rfl (r_extract hS rfl rfl) ?_; clear hS; intro a hS
  refine s_val hS (by decide) rfl rfl (r_extract hS rfl rfl) ?_; clear hS; intro a hS
  refine s_val hS (by decide) rfl rfl (r_nilCheck hS rfl) ?_; clear hS; intro a hS
  refine s_val hS (by decide) rfl rfl (r_fieldZ hS rfl Try.underlying64 rfl (s := 0) sz24 rfl) ?_; clear hS; intro a hS
  refine s_storeU hS hM rfl rfl (j := 0) rfl sz24 (by omega) ?_; clear hS hM; intro a w hS hM
  refine s_nil ?_
  exact k_res0n hS rfl ⟨rfl, hM.congr (by rw [upd_ne _ _ (show o ≠ o + 1 by omega)]; rfl)⟩

set_option maxRecDepth 100000 in
theorem mul_ok (x y : Nat → BitVec 64) (w0 : World) : Pure Try.prog 25 #[.agg (cU 5 x).toArray, .agg (cU 5 y).toArray] w0 (.agg (cU 5 (feMul x y)).toArray) := by
  refine ⟨by kernel_rfl, ?_⟩
  refine calls_sym Try.func25 rfl (by kernel_rfl) ?_
  intro a hS
  have hM : Mem w0 w0 [] := Mem.refl w0
  refine c_seq ?_
  refine c_region ?_
  refine s_box hS hM (by decide) rfl rfl ?_; clear hS hM; intro a b2 w hb2 hS hM
  refine s_box hS hM (by decide) rfl rfl ?_; clear hS hM; intro a b3 w hb3 hS hM
  refine s_alloc hS hM (by decide) zero27 ?_; clear hS hM; intro a b4 w hb4 hS hM
  refine s_nil ?_
  refine k_seq ?_
  refine c_seq ?_
  refine c_region ?_
  refine s_alloc hS hM (by decide) zero65 ?_; clear hS hM; intro a b5 w hb5 hS hM
  refine s_nil ?_
  refine k_seq ?_
  refine c_seq ?_
  refine c_seq ?_
  refine c_region ?_
  refine s_val hS (by decide) rfl rfl (r_field0 hS rfl Try.underlying27 rfl (s := 4) sz25 (k := 0) rfl) ?_; clear hS; intro a hS
  refine s_val hS (by decide) rfl rfl (r_loadAll hS hM rfl (j := 3) rfl Try.underlying25 rfl sz25 cells_len) ?_; clear hS; intro a hS
  refine s_val hS (by decide) rfl rfl (r_move hS (show ev _ _ = some (N 0) from rfl)) ?_; clear hS; intro a hS
  refine s_nil ?_
  refine k_seq ?_
  refine c_block ?_
  refine c_loop (σ := Nat) (fun i a w => (i ≤ 5) ∧ Slots a 93 (env [(3, ptr b3 0), (4, ptr b4 0), (5, ptr b5 0), (15, .agg (cU 5 x).toArray), (16, N i)]) ∧ Mem w0 w ([⟨b5, 65, cU 10 (mulG x y i)⟩, ⟨b4, 27, cU 5 (fun _ => 0)⟩, ⟨b3, 27, cU 5 y⟩, ⟨b2, 27, cU 5 x⟩])) (fun i => 5 - i) (0) ⟨by omega, hS.to _ ⟨rfl, rfl, rfl, rfl, rfl, trivial⟩, hM⟩ ?_
  clear hS hM; rintro i a w ⟨hk, hS, hM⟩
  refine c_seq ?_
  refine c_region ?_
  refine s_val hS (by decide) rfl rfl (r_bv hS rfl (show ev _ _ = some (N 5) from rfl) gN (b_lssN _ _ _)) ?_; clear hS; intro a hS
  refine s_nil ?_
  refine k_seq ?_
  refine c_seq ?_
  refine c_cond hS rfl (fun hc => ?_) (fun hc => ?_)
  · have hk1 := of_decide_eq_true hc
    refine c_skip ?_
    refine k_seq ?_
    refine c_seq ?_
    refine c_block ?_
    refine c_seq ?_
    refine c_region ?_
    refine s_val hS (by decide) rfl rfl (r_move hS rfl) ?_; clear hS; intro a hS
    refine s_val hS (by decide) rfl rfl (r_index hS rfl rfl Try.underlying25 sz24 Try.underlying24 rfl (by omega) (cells_get' (by omega))) ?_; clear hS; intro a hS
    refine s_val hS (by decide) rfl rfl (r_assign hS rfl) ?_; clear hS; intro a hS
    refine s_val hS (by decide) rfl rfl (r_assign hS rfl) ?_; clear hS; intro a hS
    refine s_nil ?_
    refine k_seq ?_
    refine c_seq ?_
    refine c_region ?_
    refine s_val hS (by decide) rfl rfl (r_field0 hS rfl Try.underlying27 rfl (s := 4) sz25 (k := 0) rfl) ?_; clear hS; intro a hS
    refine s_val hS (by decide) rfl rfl (r_loadAll hS hM rfl (j := 2) rfl Try.underlying25 rfl sz25 cells_len) ?_; clear hS; intro a hS
    refine s_val hS (by decide) rfl rfl (r_move hS (show ev _ _ = some (N 0) from rfl)) ?_; clear hS; intro a hS
    refine s_nil ?_
    refine k_seq ?_
    refine c_block ?_
    refine c_loop (σ := Nat) (fun j a w => (j ≤ 5) ∧ Slots a 93 (env [(3, ptr b3 0), (4, ptr b4 0), (5, ptr b5 0), (6, N i), (7, U (x i)), (15, .agg (cU 5 x).toArray), (16, N i), (21, .agg (cU 5 y).toArray), (22, N j)]) ∧ Mem w0 w ([⟨b5, 65, cU 10 (rowG x y i j (mulG x y i))⟩, ⟨b4, 27, cU 5 (fun _ => 0)⟩, ⟨b3, 27, cU 5 y⟩, ⟨b2, 27, cU 5 x⟩])) (fun j => 5 - j) (0) ⟨by omega, hS.to _ ⟨rfl, rfl, rfl, rfl, rfl, rfl, rfl, rfl, rfl, trivial⟩, hM⟩ ?_
    clear hS hM; rintro j a w ⟨hk, hS, hM⟩
    refine c_seq ?_
    refine c_region ?_
    refine s_val hS (by decide) rfl rfl (r_bv hS rfl (show ev _ _ = some (N 5) from rfl) gN (b_lssN _ _ _)) ?_; clear hS; intro a hS
    refine s_nil ?_
    refine k_seq ?_
    refine c_seq ?_
    refine c_cond hS rfl (fun hc => ?_) (fun hc => ?_)
    · have hk1 := of_decide_eq_true hc
      refine c_skip ?_
      refine k_seq ?_
      refine c_seq ?_
      refine c_block ?_
      refine c_seq ?_
      refine c_region ?_
      refine s_val hS (by decide) rfl rfl (r_move hS rfl) ?_; clear hS; intro a hS
      refine s_val hS (by decide) rfl rfl (r_index hS rfl rfl Try.underlying25 sz24 Try.underlying24 rfl (by omega) (cells_get' (by omega))) ?_; clear hS; intro a hS
      refine s_val hS (by decide) rfl rfl (r_assign hS rfl) ?_; clear hS; intro a hS
      refine s_val hS (by decide) rfl rfl (r_assign hS rfl) ?_; clear hS; intro a hS
      refine s_nil ?_
      refine k_seq ?_
      refine c_seq ?_
      refine c_region ?_
      refine s_val hS (by decide) rfl rfl (r_move hS rfl) ?_; clear hS; intro a hS
      refine s_val hS (by decide) rfl rfl (r_move hS rfl) ?_; clear hS; intro a hS
      refine s_val hS (by decide) rfl rfl (r_bv hS rfl rfl gN (b_addN _ _ _ (by omega))) ?_; clear hS; intro a hS
      refine s_val hS (by decide) rfl rfl (r_bv hS rfl (show ev _ _ = some (N 5) from rfl) gN (b_lssN _ _ _)) ?_; clear hS; intro a hS
      refine s_nil ?_
      refine k_seq ?_
      refine c_cond hS rfl (fun hc => ?_) (fun hc => ?_)
      · have hk2 := of_decide_eq_true hc
        refine c_region ?_
        refine s_val hS (by decide) rfl rfl (r_move hS rfl) ?_; clear hS; intro a hS
        refine s_val hS (by decide) rfl rfl (r_move hS rfl) ?_; clear hS; intro a hS
        refine s_val hS (by decide) rfl rfl (r_bv hS rfl rfl gN (b_addN _ _ _ (by omega))) ?_; clear hS; intro a hS
        refine s_val hS (by decide) rfl rfl (r_index0z hS rfl rfl Try.underlying65 sz64 (by omega)) ?_; clear hS; intro a hS
        refine s_val hS (by decide) rfl rfl (r_move hS rfl) ?_; clear hS; intro a hS
        refine s_val hS (by decide) rfl rfl (r_move hS rfl) ?_; clear hS; intro a hS
        refine s_wrote hS hM (by decide) rfl (j := 0) rfl (long_ok _ _ _ _ (hM.block (j := 0) rfl) (by omega) _ _) ?_; clear hS hM; intro a w hS hM
        refine s_nil ?_
        refine k_in ?_
        refine k_seq ?_
        refine c_region ?_
        refine s_val hS (by decide) rfl rfl (r_bv hS rfl (show ev _ _ = some (N 1) from rfl) gN (b_addN _ _ _ (by omega))) ?_; clear hS; intro a hS
        refine s_val hS (by decide) rfl rfl (r_move hS rfl) ?_; clear hS; intro a hS
        refine s_nil ?_
        refine k_then ?_
        refine ⟨j + 1, by omega, by omega, hS.to _ ⟨rfl, rfl, rfl, rfl, rfl, rfl, rfl, rfl, rfl, trivial⟩, (by first | exact hM.congr (by rw [rowG_lo _ _ _ _ _ (by omega)]; rfl) | exact hM.congr (by rw [rowG_hi _ _ _ _ _ (by omega)]; rfl))⟩
      · have hk2 := of_decide_eq_false hc
        refine c_region ?_
        refine s_val hS (by decide) rfl rfl (r_move hS rfl) ?_; clear hS; intro a hS
        refine s_val hS (by decide) rfl rfl (r_move hS rfl) ?_; clear hS; intro a hS
        refine s_val hS (by decide) rfl rfl (r_bv hS rfl rfl gN (b_addN _ _ _ (by omega))) ?_; clear hS; intro a hS
        refine s_val hS (by decide) rfl rfl (r_bv hS rfl (show ev _ _ = some (N 5) from rfl) gN (b_subN _ _ _ (by omega) (by omega))) ?_; clear hS; intro a hS
        refine s_val hS (by decide) rfl rfl (r_index0z hS rfl rfl Try.underlying65 sz64 (by omega)) ?_; clear hS; intro a hS
        refine s_val hS (by decide) rfl rfl (r_move hS rfl) ?_; clear hS; intro a hS
        refine s_val hS (by decide) rfl rfl (r_bv hS rfl (show ev _ _ = some (U 19#64) from rfl) gU (b_mulU _ _ _)) ?_; clear hS; intro a hS
        refine s_val hS (by decide) rfl rfl (r_move hS rfl) ?_; clear hS; intro a hS
        refine s_wrote hS hM (by decide) rfl (j := 0) rfl (long_ok _ _ _ _ (hM.block (j := 0) rfl) (by omega) _ _) ?_; clear hS hM; intro a w hS hM
        refine s_nil ?_
        refine k_in ?_
        refine k_seq ?_
        refine c_region ?_
        refine s_val hS (by decide) rfl rfl (r_bv hS rfl (show ev _ _ = some (N 1) from rfl) gN (b_addN _ _ _ (by omega))) ?_; clear hS; intro a hS
        refine s_val hS (by decide) rfl rfl (r_move hS rfl) ?_; clear hS; intro a hS
        refine s_nil ?_
        refine k_then ?_
        refine ⟨j + 1, by omega, by omega, hS.to _ ⟨rfl, rfl, rfl, rfl, rfl, rfl, rfl, rfl, rfl, trivial⟩, (by first | exact hM.congr (by rw [rowG_lo _ _ _ _ _ (by omega)]; rfl) | exact hM.congr (by rw [rowG_hi _ _ _ _ _ (by omega)]; rfl))⟩
    · obtain rfl : j = 5 := by have := of_decide_eq_false hc; omega
      refine c_exit ?_
      refine k_thenx ?_
      refine k_thenx ?_
      refine k_inx ?_
      refine k_in ?_
      refine k_seq ?_
      refine c_region ?_
      refine s_val hS (by decide) rfl rfl (r_bv hS rfl (show ev _ _ = some (N 1) from rfl) gN (b_addN _ _ _ (by omega))) ?_; clear hS; intro a hS
      refine s_val hS (by decide) rfl rfl (r_move hS rfl) ?_; clear hS; intro a hS
      refine s_nil ?_
      refine k_then ?_
      refine ⟨i + 1, by omega, by omega, hS.to _ ⟨rfl, rfl, rfl, rfl, rfl, trivial⟩, hM⟩
  · obtain rfl : i = 5 := by have := of_decide_eq_false hc; omega
    refine c_exit ?_
    refine k_thenx ?_
    refine k_thenx ?_
    refine k_inx ?_
    refine k_seq ?_
    refine c_seq ?_
    refine c_region ?_
    refine s_alloc hS hM (by decide) zero27 ?_; clear hS hM; intro a b10 w hb10 hS hM
    refine s_nil ?_
    refine k_seq ?_
    refine c_seq ?_
    refine c_seq ?_
    refine c_region ?_
    refine s_val hS (by decide) rfl rfl (r_loadAll hS hM rfl (j := 1) rfl Try.underlying65 rfl sz65 cells_len) ?_; clear hS; intro a hS
    refine s_val hS (by decide) rfl rfl (r_move hS (show ev _ _ = some (N 0) from rfl)) ?_; clear hS; intro a hS
    refine s_nil ?_
    refine k_seq ?_
    refine c_block ?_
    refine c_loop (σ := Nat) (fun k a w => (k ≤ 5) ∧ Slots a 93 (env [(4, ptr b4 0), (10, ptr b10 0), (48, .agg (cU 10 (mulG x y 5)).toArray), (49, N k)]) ∧ Mem w0 w ([⟨b10, 27, cU 5 (outK (mulG x y 5) k)⟩, ⟨b5, 65, cU 10 (mulG x y 5)⟩, ⟨b4, 27, cU 5 (fun _ => 0)⟩, ⟨b3, 27, cU 5 y⟩, ⟨b2, 27, cU 5 x⟩])) (fun k => 5 - k) (0) ⟨by omega, hS.to _ ⟨rfl, rfl, rfl, rfl, trivial⟩, (by rw [outK_zero]; exact hM)⟩ ?_
    clear hS hM; rintro k a w ⟨hk, hS, hM⟩
    refine c_seq ?_
    refine c_region ?_
    refine s_val hS (by decide) rfl rfl (r_bv hS rfl (show ev _ _ = some (N 5) from rfl) gN (b_lssN _ _ _)) ?_; clear hS; intro a hS
    refine s_nil ?_
    refine k_seq ?_
    refine c_seq ?_
    refine c_cond hS rfl (fun hc => ?_) (fun hc => ?_)
    · have hk1 := of_decide_eq_true hc; rw [outK_lt _ _ hk1] at hM
      refine c_skip ?_
      refine k_seq ?_
      refine c_seq ?_
      refine c_block ?_
      refine c_seq ?_
      refine c_region ?_
      refine s_val hS (by decide) rfl rfl (r_move hS rfl) ?_; clear hS; intro a hS
      refine s_val hS (by decide) rfl rfl (r_indexE hS rfl rfl Try.underlying65 sz64 Try.underlying64 rfl (by omega) (by omega)) ?_; clear hS; intro a hS
      refine s_alloc hS hM (by decide) zero64 ?_; clear hS hM; intro a b12 w hb12 hS hM
      refine s_val hS (by decide) rfl rfl (r_assign hS rfl) ?_; clear hS; intro a hS
      refine s_storeAll hS hM rfl rfl (j := 0) rfl sz64 cells_len cells_len cU_one ?_; clear hS hM; intro a w hS hM
      refine s_nil ?_
      refine k_seq ?_
      refine c_seq ?_
      refine c_plan 10 (fun w => Mem w0 w _) [(11, _), (10, _), (12, _), (4, _), (48, _), (49, _), (50, _), (51, _), (52, _)] (by kernel_rfl) (by kernel_rfl) hS ⟨rfl, rfl, rfl, rfl, rfl, rfl, rfl, rfl, rfl, trivial⟩ (hM.drawn _) ?_; clear hS hM
      refine p_step rfl (fun a w hS hM => y_val rfl (r_move hS rfl)) ?_
      refine p_step rfl (fun a w hS hM => y_val rfl (r_field0 hS rfl Try.underlying27 rfl (s := 4) sz25 (k := 0) rfl)) ?_
      refine p_step rfl (fun a w hS hM => y_val rfl (r_index0 hS rfl rfl Try.underlying25 sz24 (by omega))) ?_
      refine p_step rfl (fun a w hS hM => y_val rfl (r_load hS hM rfl (j := 1) rfl Try.underlying24 rfl (cells_get (by omega)))) ?_
      refine p_step rfl (fun a w hS hM => y_val rfl (r_field0 hS rfl Try.underlying64 rfl (s := 0) sz24 (k := 1) rfl)) ?_
      refine p_step rfl (fun a w hS hM => y_val rfl (r_load hS hM rfl (j := 0) rfl Try.underlying24 rfl (cells_get (by omega)))) ?_
      refine p_step rfl (fun a w hS hM => y_val rfl (r_bv hS rfl (show ev _ _ = some (U 2251799813685247#64) from rfl) gU (b_andU _ _ _))) ?_
      refine p_step rfl (fun a w hS hM => y_val rfl (r_bv hS rfl rfl gU (b_addU _ _ _))) ?_
      refine p_step rfl (fun a w hS hM => y_val rfl (r_field0 hS rfl Try.underlying27 rfl (s := 4) sz25 (k := 0) rfl)) ?_
      refine p_step rfl (fun a w hS hM => y_val rfl (r_index0 hS rfl rfl Try.underlying25 sz24 (by omega))) ?_
      refine p_nil rfl ?_; intro a w hS hM
      refine s_storeU hS hM rfl rfl (j := 1) rfl sz24 (by omega) ?_; clear hS hM; intro a w hS hM
      refine s_nil ?_
      refine k_seq ?_
      refine c_seq ?_
      refine c_region ?_
      refine s_val hS (by decide) rfl rfl (r_field0 hS rfl Try.underlying64 rfl (s := 0) sz24 (k := 0) rfl) ?_; clear hS; intro a hS
      refine s_val hS (by decide) rfl rfl (r_load hS hM rfl (j := 0) rfl Try.underlying24 rfl (cells_get (by omega))) ?_; clear hS; intro a hS
      refine s_val hS (by decide) rfl rfl (r_bv hS rfl (show ev _ _ = some (.int .u64 ((13 : Nat) : Int)) from rfl) gU (b_shlU _ _ _ 13)) ?_; clear hS; intro a hS
      refine s_val hS (by decide) rfl rfl (r_field0 hS rfl Try.underlying64 rfl (s := 0) sz24 (k := 1) rfl) ?_; clear hS; intro a hS
      refine s_val hS (by decide) rfl rfl (r_load hS hM rfl (j := 0) rfl Try.underlying24 rfl (cells_get (by omega))) ?_; clear hS; intro a hS
      refine s_val hS (by decide) rfl rfl (r_bv hS rfl (show ev _ _ = some (.int .u64 ((51 : Nat) : Int)) from rfl) gU (b_shrU _ _ _ 51)) ?_; clear hS; intro a hS
      refine s_val hS (by decide) rfl rfl (r_bv hS rfl rfl gU (b_orU _ _ _)) ?_; clear hS; intro a hS
      refine s_val hS (by decide) rfl rfl (r_assign hS rfl) ?_; clear hS; intro a hS
      refine s_nil ?_
      refine k_seq ?_
      refine c_seq ?_
      refine c_region ?_
      refine s_val hS (by decide) rfl rfl (r_move hS rfl) ?_; clear hS; intro a hS
      refine s_val hS (by decide) rfl rfl (r_bv hS rfl (show ev _ _ = some (N 1) from rfl) gN (b_addN _ _ _ (by omega))) ?_; clear hS; intro a hS
      refine s_val hS (by decide) rfl rfl (r_bv hS rfl (show ev _ _ = some (N 5) from rfl) gN (b_lssN _ _ _)) ?_; clear hS; intro a hS
      refine s_nil ?_
      refine k_seq ?_
      refine c_cond hS rfl (fun hc => ?_) (fun hc => ?_)
      · have hk2 := of_decide_eq_true hc
        refine c_region ?_
        refine s_val hS (by decide) rfl rfl (r_move hS rfl) ?_; clear hS; intro a hS
        refine s_val hS (by decide) rfl rfl (r_bv hS rfl (show ev _ _ = some (N 1) from rfl) gN (b_addN _ _ _ (by omega))) ?_; clear hS; intro a hS
        refine s_val hS (by decide) rfl rfl (r_field0 hS rfl Try.underlying27 rfl (s := 4) sz25 (k := 0) rfl) ?_; clear hS; intro a hS
        refine s_val hS (by decide) rfl rfl (r_index0 hS rfl rfl Try.underlying25 sz24 (by omega)) ?_; clear hS; intro a hS
        refine s_val hS (by decide) rfl rfl (r_load hS hM rfl (j := 1) rfl Try.underlying24 rfl (cells_get (by omega))) ?_; clear hS; intro a hS
        refine s_val hS (by decide) rfl rfl (r_move hS rfl) ?_; clear hS; intro a hS
        refine s_val hS (by decide) rfl rfl (r_bv hS rfl rfl gU (b_addU _ _ _)) ?_; clear hS; intro a hS
        refine s_val hS (by decide) rfl rfl (r_field0 hS rfl Try.underlying27 rfl (s := 4) sz25 (k := 0) rfl) ?_; clear hS; intro a hS
        refine s_val hS (by decide) rfl rfl (r_index0 hS rfl rfl Try.underlying25 sz24 (by omega)) ?_; clear hS; intro a hS
        refine s_storeU hS hM rfl rfl (j := 1) rfl sz24 (by omega) ?_; clear hS hM; intro a w hS hM
        refine s_nil ?_
        refine k_in ?_
        refine k_seq ?_
        refine c_region ?_
        refine s_val hS (by decide) rfl rfl (r_bv hS rfl (show ev _ _ = some (N 1) from rfl) gN (b_addN _ _ _ (by omega))) ?_; clear hS; intro a hS
        refine s_val hS (by decide) rfl rfl (r_move hS rfl) ?_; clear hS; intro a hS
        refine s_nil ?_
        refine k_then ?_
        refine ⟨k + 1, by omega, by omega, hS.to _ ⟨rfl, rfl, rfl, rfl, trivial⟩, (by first | exact (hM.drop hb12).congr (by rw [outK_lt _ _ hk2, ← outTo_step _ _ hk2]; rfl) | exact (hM.drop hb12).congr (by subst hk4; rw [outK_five, ← outTo_last]; rfl))⟩
      · have hk4 : k = 4 := by have := of_decide_eq_false hc; omega
        refine c_region ?_
        refine s_val hS (by decide) rfl rfl (r_field0 hS rfl Try.underlying27 rfl (s := 4) sz25 (k := 0) rfl) ?_; clear hS; intro a hS
        refine s_val hS (by decide) rfl rfl (r_index0 hS rfl (show ev _ _ = some (.int .i64 ((0 : Nat) : Int)) from rfl) Try.underlying25 sz24 (by decide)) ?_; clear hS; intro a hS
        refine s_val hS (by decide) rfl rfl (r_load hS hM rfl (j := 1) rfl Try.underlying24 rfl (cells_get (by omega))) ?_; clear hS; intro a hS
        refine s_val hS (by decide) rfl rfl (r_move hS rfl) ?_; clear hS; intro a hS
        refine s_val hS (by decide) rfl rfl (r_bv hS rfl (show ev _ _ = some (U 19#64) from rfl) gU (b_mulU _ _ _)) ?_; clear hS; intro a hS
        refine s_val hS (by decide) rfl rfl (r_bv hS rfl rfl gU (b_addU _ _ _)) ?_; clear hS; intro a hS
        refine s_val hS (by decide) rfl rfl (r_field0 hS rfl Try.underlying27 rfl (s := 4) sz25 (k := 0) rfl) ?_; clear hS; intro a hS
        refine s_val hS (by decide) rfl rfl (r_index0 hS rfl (show ev _ _ = some (.int .i64 ((0 : Nat) : Int)) from rfl) Try.underlying25 sz24 (by decide)) ?_; clear hS; intro a hS
        refine s_storeU hS hM rfl rfl (j := 1) rfl sz24 (by omega) ?_; clear hS hM; intro a w hS hM
        refine s_nil ?_
        refine k_in ?_
        refine k_seq ?_
        refine c_region ?_
        refine s_val hS (by decide) rfl rfl (r_bv hS rfl (show ev _ _ = some (N 1) from rfl) gN (b_addN _ _ _ (by omega))) ?_; clear hS; intro a hS
        refine s_val hS (by decide) rfl rfl (r_move hS rfl) ?_; clear hS; intro a hS
        refine s_nil ?_
        refine k_then ?_
        refine ⟨k + 1, by omega, by omega, hS.to _ ⟨rfl, rfl, rfl, rfl, trivial⟩, (by first | exact (hM.drop hb12).congr (by rw [outK_lt _ _ hk2, ← outTo_step _ _ hk2]; rfl) | exact (hM.drop hb12).congr (by subst hk4; rw [outK_five, ← outTo_last]; rfl))⟩
    · obtain rfl : k = 5 := (by have := of_decide_eq_false hc; omega); rw [outK_five] at hM
      refine c_exit ?_
      refine k_thenx ?_
      refine k_thenx ?_
      refine k_inx ?_
      refine k_seq ?_
      refine c_seq ?_
      refine c_region ?_
      refine s_val hS (by decide) rfl rfl (r_loadAll hS hM rfl (j := 0) rfl Try.underlying27 rfl sz27 cells_len) ?_; clear hS; intro a hS
      refine s_pure hS hM (by decide) rfl (carry_ok _ _) ?_; clear hS hM; intro a w hS hM
      refine s_storeAll hS hM rfl rfl (j := 2) rfl sz27 cells_len cells_len cU_one ?_; clear hS hM; intro a w hS hM
      refine s_nil ?_
      refine k_seq ?_
      refine c_ret ?_
      exact k_res1 hS rfl (RV.row rfl (hM.have_ _ (mem_of_get (j := 2) rfl)) Try.underlying27 rfl (by rw [sz27]; exact congrArg some cells_len.symm)) ⟨rfl, hM.done ⟨hb10, hb5, hb4, hb3, hb2, trivial⟩⟩

set_option maxRecDepth 100000 in
theorem square_ok (x : Nat → BitVec 64) (w0 : World) : Pure Try.prog 27 #[.agg (cU 5 x).toArray] w0 (.agg (cU 5 (feMul x x)).toArray) := by
  refine ⟨by kernel_rfl, ?_⟩
  refine calls_sym Try.func27 rfl (by kernel_rfl) ?_
  intro a hS
  have hM : Mem w0 w0 [] := Mem.refl w0
  refine c_seq ?_
  refine c_region ?_
  refine s_box hS hM (by decide) rfl rfl ?_; clear hS hM; intro a b1 w hb1 hS hM
  refine s_alloc hS hM (by decide) zero27 ?_; clear hS hM; intro a b2 w hb2 hS hM
  refine s_nil ?_
  refine k_seq ?_
  refine c_seq ?_
  refine c_region ?_
  refine s_val hS (by decide) rfl rfl (r_loadAll hS hM rfl (j := 1) rfl Try.underlying27 rfl sz27 cells_len) ?_; clear hS; intro a hS
  refine s_val hS (by decide) rfl rfl (r_loadAll hS hM rfl (j := 1) rfl Try.underlying27 rfl sz27 cells_len) ?_; clear hS; intro a hS
  refine s_pure hS hM (by decide) rfl (mul_ok _ _ _) ?_; clear hS hM; intro a w hS hM
  refine s_storeAll hS hM rfl rfl (j := 0) rfl sz27 cells_len cells_len cU_one ?_; clear hS hM; intro a w hS hM
  refine s_nil ?_
  refine k_seq ?_
  refine c_ret ?_
  exact k_res1 hS rfl (RV.row rfl (hM.have_ _ (mem_of_get (j := 0) rfl)) Try.underlying27 rfl (by rw [sz27]; exact congrArg some cells_len.symm)) ⟨rfl, hM.done ⟨hb2, hb1, trivial⟩⟩

set_option maxRecDepth 100000 in
theorem neg_ok (x : Nat → BitVec 64) (w0 : World) : Pure Try.prog 28 #[.agg (cU 5 x).toArray] w0 (.agg (cU 5 (feSub (fun _ => 0) x)).toArray) := by
  refine ⟨by kernel_rfl, ?_⟩
  refine calls_sym Try.func28 rfl (by kernel_rfl) ?_
  intro a hS
  have hM : Mem w0 w0 [] := Mem.refl w0
  refine c_seq ?_
  refine c_region ?_
  refine s_box hS hM (by decide) rfl rfl ?_; clear hS hM; intro a b1 w hb1 hS hM
  refine s_alloc hS hM (by decide) zero27 ?_; clear hS hM; intro a b2 w hb2 hS hM
  refine s_nil ?_
  refine k_seq ?_
  refine c_seq ?_
  refine c_region ?_
  refine s_val hS (by decide) rfl rfl (r_build hS rfl (cs := cU 5 (fun _ => 0)) (fun _ => by kernel_rfl)) ?_; clear hS; intro a hS
  refine s_val hS (by decide) rfl rfl (r_loadAll hS hM rfl (j := 1) rfl Try.underlying27 rfl sz27 cells_len) ?_; clear hS; intro a hS
  refine s_pure hS hM (by decide) rfl (sub_ok _ _ _) ?_; clear hS hM; intro a w hS hM
  refine s_storeAll hS hM rfl rfl (j := 0) rfl sz27 cells_len cells_len cU_one ?_; clear hS hM; intro a w hS hM
  refine s_nil ?_
  refine k_seq ?_
  refine c_ret ?_
  exact k_res1 hS rfl (RV.row rfl (hM.have_ _ (mem_of_get (j := 0) rfl)) Try.underlying27 rfl (by rw [sz27]; exact congrArg some cells_len.symm)) ⟨rfl, hM.done ⟨hb2, hb1, trivial⟩⟩

set_option maxRecDepth 100000 in
theorem equal_ok (x y : Nat → BitVec 64) (hx : Ok x) (hy : Ok y) (w0 : World) : Pure Try.prog 17 #[.agg (cU 5 x).toArray, .agg (cU 5 y).toArray] w0 (.bool (decide (val x % pP = val y % pP))) := by
  refine ⟨by kernel_rfl, ?_⟩
  refine calls_sym Try.func17 rfl (by kernel_rfl) ?_
  intro a hS
  have hM : Mem w0 w0 [] := Mem.refl w0
  refine c_seq ?_
  refine c_region ?_
  refine s_box hS hM (by decide) rfl rfl ?_; clear hS hM; intro a b2 w hb2 hS hM
  refine s_box hS hM (by decide) rfl rfl ?_; clear hS hM; intro a b3 w hb3 hS hM
  refine s_val hS (by decide) rfl rfl (r_assign hS rfl) ?_; clear hS; intro a hS
  refine s_nil ?_
  refine k_seq ?_
  refine c_seq ?_
  refine c_plan 6 (fun w => Mem w0 w _) [(2, _), (3, _)] (by kernel_rfl) (by kernel_rfl) hS ⟨rfl, rfl, trivial⟩ (hM.drawn _) ?_; clear hS hM
  refine p_step rfl (fun a w hS hM => y_val rfl (r_loadAll hS hM rfl (j := 1) rfl Try.underlying27 rfl sz27 cells_len)) ?_
  refine p_step rfl (fun a w hS hM => y_call (by kernel_rfl) hS rfl ((bytes_ok _ (by assumption) _).mem hM)) ?_
  refine p_step rfl (fun a w hS hM => y_val rfl (r_loadAll hS hM rfl (j := 0) rfl Try.underlying27 rfl sz27 cells_len)) ?_
  refine p_step rfl (fun a w hS hM => y_call (by kernel_rfl) hS rfl ((bytes_ok _ (by assumption) _).mem hM)) ?_
  refine p_step rfl (fun a w hS hM => y_val rfl (r_eqlB hS rfl rfl (by kernel_rfl) Try.underlying22 Try.underlying5 sz5)) ?_
  refine p_step rfl (fun a w hS hM => y_val rfl (r_assign hS rfl)) ?_
  refine p_nil rfl ?_; intro a w hS hM
  refine s_nil ?_
  refine k_seq ?_
  refine c_ret ?_
  exact k_res1 hS rfl (RV.tmp rfl) ⟨(congrArg (fun q => Ending.returned (.bool q)) (eqR_byt (val_lt256 x) (val_lt256 y))), hM.done ⟨hb3, hb2, trivial⟩⟩

set_option maxRecDepth 100000 in
theorem iszero_ok (x : Nat → BitVec 64) (hx : Ok x) (w0 : World) : Pure Try.prog 31 #[.agg (cU 5 x).toArray] w0 (.bool (decide (val x % pP = 0))) := by
  refine ⟨by kernel_rfl, ?_⟩
  refine calls_sym Try.func31 rfl (by kernel_rfl) ?_
  intro a hS
  have hM : Mem w0 w0 [] := Mem.refl w0
  refine c_seq ?_
  refine c_region ?_
  refine s_box hS hM (by decide) rfl rfl ?_; clear hS hM; intro a b1 w hb1 hS hM
  refine s_val hS (by decide) rfl rfl (r_assign hS rfl) ?_; clear hS; intro a hS
  refine s_nil ?_
  refine k_seq ?_
  refine c_seq ?_
  refine c_region ?_
  refine s_val hS (by decide) rfl rfl (r_loadAll hS hM rfl (j := 0) rfl Try.underlying27 rfl sz27 cells_len) ?_; clear hS; intro a hS
  refine s_val hS (by decide) rfl rfl (r_build hS rfl (cs := cU 5 (fun _ => 0)) (fun _ => by kernel_rfl)) ?_; clear hS; intro a hS
  refine s_pure hS hM (by decide) rfl (equal_ok _ _ (by assumption) (by first | assumption | exact zero_ok) _) ?_; clear hS hM; intro a w hS hM
  refine s_val hS (by decide) rfl rfl (r_assign hS rfl) ?_; clear hS; intro a hS
  refine s_nil ?_
  refine k_seq ?_
  refine c_ret ?_
  exact k_res1 hS rfl (RV.tmp rfl) ⟨rfl, hM.done ⟨hb1, trivial⟩⟩

set_option maxRecDepth 100000 in
theorem odd_ok (x : Nat → BitVec 64) (hx : Ok x) (w0 : World) : Pure Try.prog 32 #[.agg (cU 5 x).toArray] w0 (.bool (decide (val x % pP % 2 = 1))) := by
  refine ⟨by kernel_rfl, ?_⟩
  refine calls_sym Try.func32 rfl (by kernel_rfl) ?_
  intro a hS
  have hM : Mem w0 w0 [] := Mem.refl w0
  refine c_seq ?_
  refine c_region ?_
  refine s_box hS hM (by decide) rfl rfl ?_; clear hS hM; intro a b1 w hb1 hS hM
  refine s_val hS (by decide) rfl rfl (r_assign hS rfl) ?_; clear hS; intro a hS
  refine s_nil ?_
  refine k_seq ?_
  refine c_seq ?_
  refine c_region ?_
  refine s_val hS (by decide) rfl rfl (r_loadAll hS hM rfl (j := 0) rfl Try.underlying27 rfl sz27 cells_len) ?_; clear hS; intro a hS
  refine s_pure hS hM (by decide) rfl (bytes_ok _ (by assumption) _) ?_; clear hS hM; intro a w hS hM
  refine s_val hS (by decide) rfl rfl (r_index hS rfl (show ev _ _ = some (.int .i64 ((0 : Nat) : Int)) from rfl) Try.underlying22 sz5 Try.underlying5 rfl (by decide) (cells_get' (by omega))) ?_; clear hS; intro a hS
  refine s_val hS (by decide) rfl rfl (r_bv hS rfl (show ev _ _ = some (B 1#8) from rfl) gB (b_andB _ _ _)) ?_; clear hS; intro a hS
  refine s_val hS (by decide) rfl rfl (r_bv hS rfl (show ev _ _ = some (B 1#8) from rfl) gB (b_eqlB _ _ _)) ?_; clear hS; intro a hS
  refine s_val hS (by decide) rfl rfl (r_assign hS rfl) ?_; clear hS; intro a hS
  refine s_nil ?_
  refine k_seq ?_
  refine c_ret ?_
  exact k_res1 hS rfl (RV.tmp rfl) ⟨(congrArg (fun q => Ending.returned (.bool q)) (odd_byt _)), hM.done ⟨hb1, trivial⟩⟩

set_option maxRecDepth 100000 in
theorem canon_ok (f : Nat → BitVec 8) (w0 : World) : Pure Try.prog 18 #[.agg (cB 32 f).toArray] w0 (.bool (decide (natB f 32 % 2 ^ 255 < pP))) := by
  refine ⟨by kernel_rfl, ?_⟩
  refine calls_sym Try.func18 rfl (by kernel_rfl) ?_
  intro a hS
  have hM : Mem w0 w0 [] := Mem.refl w0
  refine c_seq ?_
  refine c_region ?_
  refine s_box hS hM (by decide) rfl rfl ?_; clear hS hM; intro a b1 w hb1 hS hM
  refine s_val hS (by decide) rfl rfl (r_assign hS rfl) ?_; clear hS; intro a hS
  refine s_nil ?_
  refine k_seq ?_
  refine c_seq ?_
  refine c_region ?_
  refine s_val hS (by decide) rfl rfl (r_index0 hS rfl (show ev _ _ = some (.int .i64 ((31 : Nat) : Int)) from rfl) Try.underlying22 sz5 (by decide)) ?_; clear hS; intro a hS
  refine s_val hS (by decide) rfl rfl (r_load hS hM rfl (j := 0) rfl Try.underlying5 rfl (cells_get (by omega))) ?_; clear hS; intro a hS
  refine s_val hS (by decide) rfl rfl (r_bv hS rfl (show ev _ _ = some (B 128#8) from rfl) gB (b_andNotB _ _ _)) ?_; clear hS; intro a hS
  refine s_val hS (by decide) rfl rfl (r_index0 hS rfl (show ev _ _ = some (.int .i64 ((31 : Nat) : Int)) from rfl) Try.underlying22 sz5 (by decide)) ?_; clear hS; intro a hS
  refine s_storeB hS hM rfl rfl (j := 0) rfl sz5 (by omega) ?_; clear hS hM; intro a w hS hM
  refine s_nil ?_
  refine k_seq ?_
  refine c_seq ?_
  refine c_plan 6 (fun w => Mem w0 w _) [(1, _)] (by kernel_rfl) (by kernel_rfl) hS ⟨rfl, trivial⟩ (hM.drawn _) ?_; clear hS hM
  refine p_step rfl (fun a w hS hM => y_val rfl (r_loadAll hS hM rfl (j := 0) rfl Try.underlying22 rfl sz22 cells_len)) ?_
  refine p_step rfl (fun a w hS hM => y_call (by kernel_rfl) hS rfl ((from_ok _ _).mem hM)) ?_
  refine p_step rfl (fun a w hS hM => y_call (by kernel_rfl) hS rfl ((bytes_ok _ (limb51_ok _) _).mem hM)) ?_
  refine p_step rfl (fun a w hS hM => y_val rfl (r_loadAll hS hM rfl (j := 0) rfl Try.underlying22 rfl sz22 cells_len)) ?_
  refine p_step rfl (fun a w hS hM => y_val rfl (r_eqlB hS rfl rfl (by kernel_rfl) Try.underlying22 Try.underlying5 sz5)) ?_
  refine p_step rfl (fun a w hS hM => y_val rfl (r_assign hS rfl)) ?_
  refine p_nil rfl ?_; intro a w hS hM
  refine s_nil ?_
  refine k_seq ?_
  refine c_ret ?_
  exact k_res1 hS rfl (RV.tmp rfl) ⟨(congrArg (fun q => Ending.returned (.bool q)) (canon_eqR f)), hM.done ⟨hb1, trivial⟩⟩
end Go.Proofs.Ytjnhgeoojnnfoaa
