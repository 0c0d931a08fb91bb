/- The walks through package roots and the definition of chapter 6. Printed by a program of mine (walk.py). -/
import Derived.Test.YtedlgmjpifokdaaProg
import Derived.Test.YtedlgmjpifokdaaRo3
import Derived.Test.YtedlgmjpifokdaaSymStore
import Derived.Test.YtedlgmjpifokdaaSymScope
import Derived.Test.YtedlgmjpifokdaaSymCmp
namespace Go.Proofs.Ytedlgmjpifokdaa
open Go Go.Sym
attribute [local irreducible] limb dig sr rt sqG cuG

theorem made26_10 : Made Try.prog 26 22 (5 + 5) (cU (5 + 5) (fun _ => 0)) := fun _ => by kernel_rfl
theorem made26_15 : Made Try.prog 26 22 (10 + 5) (cU (10 + 5) (fun _ => 0)) := fun _ => by kernel_rfl
theorem ext25 : ExtOk Try.prog 25 Try.f25 addEntry := ⟨Try.func25, by kernel_rfl, by kernel_rfl, by kernel_rfl, by kernel_rfl⟩
theorem sz22 : (Try.prog.info? 22).map (·.size) = some 1 := by kernel_rfl
theorem sz34 : (Try.prog.info? 34).map (·.size) = some 4 := by kernel_rfl
theorem zero34 : Zero Try.prog 34 (cU 4 (fun _ => 0)) := fun _ => by kernel_rfl
theorem row26_2 (x0 x1 : BitVec 64) : BuildsRow Try.prog 26 22 2 [(0, U x0), (1, U x1)] [U x0, U x1] := fun _ => by kernel_rfl
theorem elem26 : ElemOk Try.prog 26 22 (U 0) 8 := ⟨Try.underlying26, by kernel_rfl, by decide, by decide⟩
theorem made26_5 : Made Try.prog 26 22 5 (cU 5 (fun _ => 0)) := fun _ => by kernel_rfl
theorem made26_8 : Made Try.prog 26 22 8 (cU 8 (fun _ => 0)) := fun _ => by kernel_rfl
theorem made26_12 : Made Try.prog 26 22 12 (cU 12 (fun _ => 0)) := fun _ => by kernel_rfl

set_option maxRecDepth 100000 in
theorem mul64_ok (x y : BitVec 64) (w0 : World) : Pure Try.prog 24 #[U x, U y] w0 (.tuple #[U (mulHi x y), U (x * y)]) := by
  refine ⟨by kernel_rfl, ?_⟩
  refine calls_sym Try.func24 rfl (by kernel_rfl) ?_
  intro a hS
  have hM : Mem w0 w0 [] := Mem.refl w0
  refine c_seq ?_
  refine c_region ?_
  refine s_val hS (by decide) rfl rfl (r_assign hS (show ev _ _ = some (U 0#64) from rfl)) ?_; clear hS; intro a hS
  refine s_val hS (by decide) rfl rfl (r_assign hS (show ev _ _ = some (U 0#64) from rfl)) ?_; clear hS; intro a hS
  refine s_nil ?_
  refine k_seq ?_
  refine c_seq ?_
  refine c_region ?_
  refine s_val hS (by decide) rfl rfl (r_move hS rfl) ?_; clear hS; intro a hS
  refine s_val hS (by decide) rfl rfl (r_bv hS rfl (show ev _ _ = some (U 4294967295#64) from rfl) gU (b_andU _ _ _)) ?_; clear hS; intro a hS
  refine s_val hS (by decide) rfl rfl (r_assign hS rfl) ?_; clear hS; intro a hS
  refine s_nil ?_
  refine k_seq ?_
  refine c_seq ?_
  refine c_region ?_
  refine s_val hS (by decide) rfl rfl (r_move hS rfl) ?_; clear hS; intro a hS
  refine s_val hS (by decide) rfl rfl (r_bv hS rfl (show ev _ _ = some (.int .u64 ((32 : Nat) : Int)) from rfl) gU (b_shrU _ _ _ 32)) ?_; clear hS; intro a hS
  refine s_val hS (by decide) rfl rfl (r_assign hS rfl) ?_; clear hS; intro a hS
  refine s_nil ?_
  refine k_seq ?_
  refine c_seq ?_
  refine c_region ?_
  refine s_val hS (by decide) rfl rfl (r_move hS rfl) ?_; clear hS; intro a hS
  refine s_val hS (by decide) rfl rfl (r_bv hS rfl (show ev _ _ = some (U 4294967295#64) from rfl) gU (b_andU _ _ _)) ?_; clear hS; intro a hS
  refine s_val hS (by decide) rfl rfl (r_assign hS rfl) ?_; clear hS; intro a hS
  refine s_nil ?_
  refine k_seq ?_
  refine c_seq ?_
  refine c_region ?_
  refine s_val hS (by decide) rfl rfl (r_move hS rfl) ?_; clear hS; intro a hS
  refine s_val hS (by decide) rfl rfl (r_bv hS rfl (show ev _ _ = some (.int .u64 ((32 : Nat) : Int)) from rfl) gU (b_shrU _ _ _ 32)) ?_; clear hS; intro a hS
  refine s_val hS (by decide) rfl rfl (r_assign hS rfl) ?_; clear hS; intro a hS
  refine s_nil ?_
  refine k_seq ?_
  refine c_seq ?_
  refine c_region ?_
  refine s_val hS (by decide) rfl rfl (r_move hS rfl) ?_; clear hS; intro a hS
  refine s_val hS (by decide) rfl rfl (r_move hS rfl) ?_; clear hS; intro a hS
  refine s_val hS (by decide) rfl rfl (r_bv hS rfl rfl gU (b_mulU _ _ _)) ?_; clear hS; intro a hS
  refine s_val hS (by decide) rfl rfl (r_assign hS rfl) ?_; clear hS; intro a hS
  refine s_nil ?_
  refine k_seq ?_
  refine c_seq ?_
  refine c_region ?_
  refine s_val hS (by decide) rfl rfl (r_move hS rfl) ?_; clear hS; intro a hS
  refine s_val hS (by decide) rfl rfl (r_move hS rfl) ?_; clear hS; intro a hS
  refine s_val hS (by decide) rfl rfl (r_bv hS rfl rfl gU (b_mulU _ _ _)) ?_; clear hS; intro a hS
  refine s_val hS (by decide) rfl rfl (r_move hS rfl) ?_; clear hS; intro a hS
  refine s_val hS (by decide) rfl rfl (r_bv hS rfl (show ev _ _ = some (.int .u64 ((32 : Nat) : Int)) from rfl) gU (b_shrU _ _ _ 32)) ?_; clear hS; intro a hS
  refine s_val hS (by decide) rfl rfl (r_bv hS rfl rfl gU (b_addU _ _ _)) ?_; clear hS; intro a hS
  refine s_val hS (by decide) rfl rfl (r_assign hS rfl) ?_; clear hS; intro a hS
  refine s_nil ?_
  refine k_seq ?_
  refine c_seq ?_
  refine c_region ?_
  refine s_val hS (by decide) rfl rfl (r_move hS rfl) ?_; clear hS; intro a hS
  refine s_val hS (by decide) rfl rfl (r_bv hS rfl (show ev _ _ = some (U 4294967295#64) from rfl) gU (b_andU _ _ _)) ?_; clear hS; intro a hS
  refine s_val hS (by decide) rfl rfl (r_assign hS rfl) ?_; clear hS; intro a hS
  refine s_nil ?_
  refine k_seq ?_
  refine c_seq ?_
  refine c_region ?_
  refine s_val hS (by decide) rfl rfl (r_move hS rfl) ?_; clear hS; intro a hS
  refine s_val hS (by decide) rfl rfl (r_bv hS rfl (show ev _ _ = some (.int .u64 ((32 : Nat) : Int)) from rfl) gU (b_shrU _ _ _ 32)) ?_; clear hS; intro a hS
  refine s_val hS (by decide) rfl rfl (r_assign hS rfl) ?_; clear hS; intro a hS
  refine s_nil ?_
  refine k_seq ?_
  refine c_seq ?_
  refine c_region ?_
  refine s_val hS (by decide) rfl rfl (r_move hS rfl) ?_; clear hS; intro a hS
  refine s_val hS (by decide) rfl rfl (r_move hS rfl) ?_; clear hS; intro a hS
  refine s_val hS (by decide) rfl rfl (r_move hS rfl) ?_; clear hS; intro a hS
  refine s_val hS (by decide) rfl rfl (r_bv hS rfl rfl gU (b_mulU _ _ _)) ?_; clear hS; intro a hS
  refine s_val hS (by decide) rfl rfl (r_bv hS rfl rfl gU (b_addU _ _ _)) ?_; clear hS; intro a hS
  refine s_val hS (by decide) rfl rfl (r_assign hS rfl) ?_; clear hS; intro a hS
  refine s_nil ?_
  refine k_seq ?_
  refine c_seq ?_
  refine c_region ?_
  refine s_val hS (by decide) rfl rfl (r_move hS rfl) ?_; clear hS; intro a hS
  refine s_val hS (by decide) rfl rfl (r_move hS rfl) ?_; clear hS; intro a hS
  refine s_val hS (by decide) rfl rfl (r_bv hS rfl rfl gU (b_mulU _ _ _)) ?_; clear hS; intro a hS
  refine s_val hS (by decide) rfl rfl (r_move hS rfl) ?_; clear hS; intro a hS
  refine s_val hS (by decide) rfl rfl (r_bv hS rfl rfl gU (b_addU _ _ _)) ?_; clear hS; intro a hS
  refine s_val hS (by decide) rfl rfl (r_move hS rfl) ?_; clear hS; intro a hS
  refine s_val hS (by decide) rfl rfl (r_bv hS rfl (show ev _ _ = some (.int .u64 ((32 : Nat) : Int)) from rfl) gU (b_shrU _ _ _ 32)) ?_; clear hS; intro a hS
  refine s_val hS (by decide) rfl rfl (r_bv hS rfl rfl gU (b_addU _ _ _)) ?_; clear hS; intro a hS
  refine s_val hS (by decide) rfl rfl (r_assign hS rfl) ?_; clear hS; intro a hS
  refine s_nil ?_
  refine k_seq ?_
  refine c_seq ?_
  refine c_region ?_
  refine s_val hS (by decide) rfl rfl (r_move hS rfl) ?_; clear hS; intro a hS
  refine s_val hS (by decide) rfl rfl (r_move hS rfl) ?_; clear hS; intro a hS
  refine s_val hS (by decide) rfl rfl (r_bv hS rfl rfl gU (b_mulU _ _ _)) ?_; clear hS; intro a hS
  refine s_val hS (by decide) rfl rfl (r_assign hS rfl) ?_; clear hS; intro a hS
  refine s_nil ?_
  refine k_seq ?_
  refine c_ret ?_
  exact k_res2 hS rfl (RV.tmp rfl) (RV.tmp rfl) ⟨rfl, hM.done trivial⟩

set_option maxRecDepth 100000 in
theorem shifted_ok (p : BitVec 64) (k : Nat) (hk : k < 4) (w0 : World) : Pure Try.prog 19 #[U p, N k] w0 (.agg (cU 4 (upd (fun _ => 0) k p)).toArray) := by
  refine ⟨by kernel_rfl, ?_⟩
  refine calls_sym Try.func19 rfl (by kernel_rfl) ?_
  intro a hS
  have hM : Mem w0 w0 [] := Mem.refl w0
  refine c_seq ?_
  refine c_region ?_
  refine s_alloc hS hM (by decide) zero34 ?_; clear hS hM; intro a b4 w hb4 hS hM
  refine s_nil ?_
  refine k_seq ?_
  refine c_seq ?_
  refine c_region ?_
  refine s_alloc hS hM (by decide) zero34 ?_; clear hS hM; intro a b5 w hb5 hS hM
  refine s_nil ?_
  refine k_seq ?_
  refine c_seq ?_
  refine c_region ?_
  refine s_val hS (by decide) rfl rfl (r_move hS rfl) ?_; clear hS; intro a hS
  refine s_val hS (by decide) rfl rfl (r_move hS rfl) ?_; clear hS; intro a hS
  refine s_val hS (by decide) rfl rfl (r_index0 hS rfl rfl Try.underlying34 sz22 (by omega)) ?_; clear hS; intro a hS
  refine s_storeU hS hM rfl rfl (j := 0) rfl sz22 (by omega) ?_; clear hS hM; intro a w hS hM
  refine s_nil ?_
  refine k_seq ?_
  refine c_seq ?_
  refine c_region ?_
  refine s_val hS (by decide) rfl rfl (r_loadAll hS hM rfl (j := 0) rfl Try.underlying34 rfl sz34 cells_len) ?_; clear hS; intro a hS
  refine s_storeAll hS hM rfl rfl (j := 1) rfl sz34 cells_len cells_len cU_one ?_; clear hS hM; intro a w hS hM
  refine s_nil ?_
  refine k_seq ?_
  refine c_ret ?_
  exact k_res1 hS rfl (RV.row rfl (hM.have_ _ (mem_of_get (j := 1) rfl)) Try.underlying34 rfl (by rw [sz34]; exact congrArg some cells_len.symm)) ⟨rfl, hM.done ⟨hb5, hb4, trivial⟩⟩

set_option maxRecDepth 100000 in
theorem wbit_ok (f : Nat → BitVec 64) (i : Nat) (hi : i < 256) (w0 : World) : Pure Try.prog 20 #[.agg (cU 4 f).toArray, N i] w0 (.agg (cU 4 (upd f (i / 64) (f (i / 64) ||| 1#64 <<< (i % 64)))).toArray) := by
  refine ⟨by kernel_rfl, ?_⟩
  refine calls_sym Try.func20 rfl (by kernel_rfl) ?_
  intro a hS
  have hM : Mem w0 w0 [] := Mem.refl w0
  refine c_seq ?_
  refine c_region ?_
  refine s_box hS hM (by decide) rfl rfl ?_; clear hS hM; intro a b2 w hb2 hS hM
  refine s_alloc hS hM (by decide) zero34 ?_; clear hS hM; intro a b4 w hb4 hS hM
  refine s_nil ?_
  refine k_seq ?_
  refine c_seq ?_
  refine c_plan 9 (fun w => Mem w0 w _) [(1, _), (2, _), (4, _)] (by kernel_rfl) (by kernel_rfl) hS ⟨rfl, rfl, rfl, trivial⟩ (hM.drawn _) ?_; clear hS hM
  refine p_step rfl (fun a w hS hM => y_val rfl (r_move hS rfl)) ?_
  refine p_step rfl (fun a w hS hM => y_val rfl (r_bv hS rfl (show ev _ _ = some (N 64) from rfl) gN (b_quoN _ _ _ (by omega) (by omega)))) ?_
  refine p_step rfl (fun a w hS hM => y_val rfl (r_index0 hS rfl rfl Try.underlying34 sz22 (by omega))) ?_
  refine p_step rfl (fun a w hS hM => y_val rfl (r_load hS hM rfl (j := 1) rfl Try.underlying22 rfl (cells_get (by omega)))) ?_
  refine p_step rfl (fun a w hS hM => y_val rfl (r_move hS rfl)) ?_
  refine p_step rfl (fun a w hS hM => y_val rfl (r_bv hS rfl (show ev _ _ = some (N 64) from rfl) gN (b_remN _ _ _ (by omega)))) ?_
  refine p_step rfl (fun a w hS hM => y_val rfl (r_bv hS (show ev _ _ = some (U 1#64) from rfl) rfl gU (b_shlU _ _ _ _))) ?_
  refine p_step rfl (fun a w hS hM => y_val rfl (r_bv hS rfl rfl gU (b_orU _ _ _))) ?_
  refine p_step rfl (fun a w hS hM => y_val rfl (r_index0 hS rfl rfl Try.underlying34 sz22 (by omega))) ?_
  refine p_nil rfl ?_; intro a w hS hM
  refine s_storeU hS hM rfl rfl (j := 1) rfl sz22 (by omega) ?_; clear hS hM; intro a w hS hM
  refine s_nil ?_
  refine k_seq ?_
  refine c_seq ?_
  refine c_region ?_
  refine s_val hS (by decide) rfl rfl (r_loadAll hS hM rfl (j := 1) rfl Try.underlying34 rfl sz34 cells_len) ?_; clear hS; intro a hS
  refine s_storeAll hS hM rfl rfl (j := 0) rfl sz34 cells_len cells_len cU_one ?_; clear hS hM; intro a w hS hM
  refine s_nil ?_
  refine k_seq ?_
  refine c_ret ?_
  exact k_res1 hS rfl (RV.row rfl (hM.have_ _ (mem_of_get (j := 0) rfl)) Try.underlying34 rfl (by rw [sz34]; exact congrArg some cells_len.symm)) ⟨rfl, hM.done ⟨hb4, hb2, trivial⟩⟩

set_option maxRecDepth 100000 in
theorem wtimes_ok (A B : Nat) (hA : A < 2 ^ (64 * 4)) (w0 : World) : Pure Try.prog 21 #[.agg (cU 4 (limb A)).toArray, .agg (cU 4 (limb B)).toArray] w0 (.agg (cU 4 (limb (A * B % 2 ^ (64 * 4)))).toArray) := by
  refine ⟨by kernel_rfl, ?_⟩
  refine calls_sym Try.func21 rfl (by kernel_rfl) ?_
  intro a hS
  have hM : Mem w0 w0 [] := Mem.refl w0
  refine c_seq ?_
  refine c_region ?_
  refine s_box hS hM (by decide) rfl rfl ?_; clear hS hM; intro a b2 w hb2 hS hM
  refine s_box hS hM (by decide) rfl rfl ?_; clear hS hM; intro a b3 w hb3 hS hM
  refine s_alloc hS hM (by decide) zero34 ?_; clear hS hM; intro a b4 w hb4 hS hM
  refine s_nil ?_
  refine k_seq ?_
  refine c_seq ?_
  refine c_region ?_
  refine s_alloc hS hM (by decide) zero34 ?_; clear hS hM; intro a b5 w hb5 hS hM
  refine s_nil ?_
  refine k_seq ?_
  refine c_seq ?_
  refine c_seq ?_
  refine c_region ?_
  refine s_val hS (by decide) rfl rfl (r_move hS (show ev _ _ = some (N 0) from rfl)) ?_; clear hS; intro a hS
  refine s_nil ?_
  refine k_seq ?_
  refine c_block ?_
  refine c_loop (σ := Nat) (fun i a w => (i ≤ 4) ∧ Slots a 59 (env [(2, ptr b2 0), (3, ptr b3 0), (4, ptr b4 0), (5, ptr b5 0), (12, N i)]) ∧ Mem w0 w ([⟨b5, 34, cU 4 (limb (wP A B i))⟩, ⟨b4, 34, cU 4 (fun _ => 0)⟩, ⟨b3, 34, cU 4 (limb B)⟩, ⟨b2, 34, cU 4 (limb A)⟩])) (fun i => 4 - i) (0) ⟨by omega, hS.to _ ⟨rfl, rfl, rfl, rfl, rfl, trivial⟩, (by rw [wP_zero, limb_nul]; exact hM)⟩ ?_
  clear hS hM; rintro i a w ⟨hk, hS, hM⟩
  refine c_seq ?_
  refine c_region ?_
  refine s_val hS (by decide) rfl rfl (r_bv hS rfl (show ev _ _ = some (N 4) from rfl) gN (b_lssN _ _ _)) ?_; clear hS; intro a hS
  refine s_nil ?_
  refine k_seq ?_
  refine c_seq ?_
  refine c_cond hS rfl (fun hc => ?_) (fun hc => ?_)
  · have hk1 := of_decide_eq_true hc
    refine c_skip ?_
    refine k_seq ?_
    refine c_seq ?_
    refine c_block ?_
    refine c_seq ?_
    refine c_region ?_
    refine s_val hS (by decide) rfl rfl (r_move hS rfl) ?_; clear hS; intro a hS
    refine s_val hS (by decide) rfl rfl (r_assign hS rfl) ?_; clear hS; intro a hS
    refine s_nil ?_
    refine k_seq ?_
    refine c_seq ?_
    refine c_region ?_
    refine s_val hS (by decide) rfl rfl (r_assign hS (show ev _ _ = some (U 0#64) from rfl)) ?_; clear hS; intro a hS
    refine s_nil ?_
    refine k_seq ?_
    refine c_seq ?_
    refine c_region ?_
    refine s_val hS (by decide) rfl rfl (r_assign hS (show ev _ _ = some (N 0) from rfl)) ?_; clear hS; intro a hS
    refine s_nil ?_
    refine k_seq ?_
    refine c_block ?_
    refine c_loop (σ := Nat) (fun j a w => (j ≤ 4 - i) ∧ Slots a 59 (env [(2, ptr b2 0), (3, ptr b3 0), (4, ptr b4 0), (5, ptr b5 0), (6, N i), (7, U (wC (wP A B i) (A / 2 ^ (64 * i) % 2 ^ 64) B i j)), (8, N j), (12, N i)]) ∧ Mem w0 w ([⟨b5, 34, cU 4 (wT (wP A B i) (A / 2 ^ (64 * i) % 2 ^ 64) B i j)⟩, ⟨b4, 34, cU 4 (fun _ => 0)⟩, ⟨b3, 34, cU 4 (limb B)⟩, ⟨b2, 34, cU 4 (limb A)⟩])) (fun j => 4 - i - j) (0) ⟨by omega, hS.to _ ⟨rfl, rfl, rfl, rfl, rfl, congrArg some (wC_nul _ _ _ _), rfl, rfl, trivial⟩, (by rw [wT_zero]; exact hM)⟩ ?_
    clear hS hM; rintro j a w ⟨hk, hS, hM⟩
    refine c_seq ?_
    refine c_seq ?_
    refine c_region ?_
    refine s_val hS (by decide) rfl rfl (r_move hS rfl) ?_; clear hS; intro a hS
    refine s_val hS (by decide) rfl rfl (r_move hS rfl) ?_; clear hS; intro a hS
    refine s_val hS (by decide) rfl rfl (r_bv hS rfl rfl gN (b_addN _ _ _ (by omega))) ?_; clear hS; intro a hS
    refine s_val hS (by decide) rfl rfl (r_bv hS rfl (show ev _ _ = some (N 4) from rfl) gN (b_lssN _ _ _)) ?_; clear hS; intro a hS
    refine s_nil ?_
    refine k_seq ?_
    refine c_cond hS rfl (fun hc => ?_) (fun hc => ?_)
    · have hk2 := of_decide_eq_true hc
      refine c_skip ?_
      refine k_seq ?_
      refine c_seq ?_
      refine c_block ?_
      refine c_seq ?_
      refine c_plan 12 (fun w => Mem w0 w _) [(6, _), (2, _), (8, _), (3, _), (4, _), (5, _), (7, _), (12, _), (15, _), (16, _), (17, _), (18, _)] (by kernel_rfl) (by kernel_rfl) hS ⟨rfl, rfl, rfl, rfl, rfl, rfl, rfl, rfl, rfl, rfl, rfl, rfl, trivial⟩ (hM.drawn _) ?_; clear hS hM
      refine p_step rfl (fun a w hS hM => y_val rfl (r_move hS rfl)) ?_
      refine p_step rfl (fun a w hS hM => y_val rfl (r_index0 hS rfl rfl Try.underlying34 sz22 (by omega))) ?_
      refine p_step rfl (fun a w hS hM => y_val rfl (r_load hS hM rfl (j := 3) rfl Try.underlying22 rfl (cells_get (by omega)))) ?_
      refine p_step rfl (fun a w hS hM => y_val rfl (r_move hS rfl)) ?_
      refine p_step rfl (fun a w hS hM => y_val rfl (r_index0 hS rfl rfl Try.underlying34 sz22 (by omega))) ?_
      refine p_step rfl (fun a w hS hM => y_val rfl (r_load hS hM rfl (j := 2) rfl Try.underlying22 rfl (cells_get (by omega)))) ?_
      refine p_step rfl (fun a w hS hM => y_call (by kernel_rfl) hS rfl ((mul64_ok _ _ _).mem hM)) ?_
      refine p_step rfl (fun a w hS hM => y_val rfl (r_move hS rfl)) ?_
      refine p_step rfl (fun a w hS hM => y_val rfl (r_extract hS rfl rfl)) ?_
      refine p_step rfl (fun a w hS hM => y_val rfl (r_extract hS rfl rfl)) ?_
      refine p_step rfl (fun a w hS hM => y_val rfl (r_assign hS rfl)) ?_
      refine p_step rfl (fun a w hS hM => y_val rfl (r_assign hS rfl)) ?_
      refine p_nil rfl ?_; intro a w hS hM
      refine s_nil ?_
      refine k_seq ?_
      refine c_seq ?_
      refine c_region ?_
      refine s_val hS (by decide) rfl rfl (r_assign hS (show ev _ _ = some (U 0#64) from rfl)) ?_; clear hS; intro a hS
      refine s_nil ?_
      refine k_seq ?_
      refine c_seq ?_
      refine c_region ?_
      refine s_val hS (by decide) rfl rfl (r_move hS rfl) ?_; clear hS; intro a hS
      refine s_val hS (by decide) rfl rfl (r_move hS rfl) ?_; clear hS; intro a hS
      refine s_val hS (by decide) rfl rfl (r_ext ext25 hS (vs := [_, _, U 0#64]) rfl (run_add _ _ _ (by decide))) ?_; clear hS; intro a hS
      refine s_val hS (by decide) rfl rfl (r_move hS rfl) ?_; clear hS; intro a hS
      refine s_val hS (by decide) rfl rfl (r_extract hS rfl rfl) ?_; clear hS; intro a hS
      refine s_val hS (by decide) rfl rfl (r_extract hS rfl rfl) ?_; clear hS; intro a hS
      refine s_val hS (by decide) rfl rfl (r_assign hS rfl) ?_; clear hS; intro a hS
      refine s_val hS (by decide) rfl rfl (r_assign hS rfl) ?_; clear hS; intro a hS
      refine s_nil ?_
      refine k_seq ?_
      refine c_seq ?_
      refine c_region ?_
      refine s_val hS (by decide) rfl rfl (r_move hS rfl) ?_; clear hS; intro a hS
      refine s_val hS (by decide) rfl rfl (r_move hS rfl) ?_; clear hS; intro a hS
      refine s_val hS (by decide) rfl rfl (r_bv hS rfl rfl gU (b_addU _ _ _)) ?_; clear hS; intro a hS
      refine s_val hS (by decide) rfl rfl (r_assign hS rfl) ?_; clear hS; intro a hS
      refine s_nil ?_
      refine k_seq ?_
      refine c_seq ?_
      refine c_region ?_
      refine s_val hS (by decide) rfl rfl (r_move hS rfl) ?_; clear hS; intro a hS
      refine s_val hS (by decide) rfl rfl (r_move hS rfl) ?_; clear hS; intro a hS
      refine s_val hS (by decide) rfl rfl (r_bv hS rfl rfl gN (b_addN _ _ _ (by omega))) ?_; clear hS; intro a hS
      refine s_val hS (by decide) rfl rfl (r_move hS rfl) ?_; clear hS; intro a hS
      refine s_val hS (by decide) rfl rfl (r_move hS rfl) ?_; clear hS; intro a hS
      refine s_val hS (by decide) rfl rfl (r_bv hS rfl rfl gN (b_addN _ _ _ (by omega))) ?_; clear hS; intro a hS
      refine s_val hS (by decide) rfl rfl (r_index0 hS rfl rfl Try.underlying34 sz22 (by omega)) ?_; clear hS; intro a hS
      refine s_val hS (by decide) rfl rfl (r_load hS hM rfl (j := 0) rfl Try.underlying22 rfl (cells_get (by omega))) ?_; clear hS; intro a hS
      refine s_val hS (by decide) rfl rfl (r_move hS rfl) ?_; clear hS; intro a hS
      refine s_val hS (by decide) rfl rfl (r_ext ext25 hS (vs := [_, _, U 0#64]) rfl (run_add _ _ _ (by decide))) ?_; clear hS; intro a hS
      refine s_val hS (by decide) rfl rfl (r_move hS rfl) ?_; clear hS; intro a hS
      refine s_val hS (by decide) rfl rfl (r_extract hS rfl rfl) ?_; clear hS; intro a hS
      refine s_val hS (by decide) rfl rfl (r_extract hS rfl rfl) ?_; clear hS; intro a hS
      refine s_val hS (by decide) rfl rfl (r_index0 hS rfl rfl Try.underlying34 sz22 (by omega)) ?_; clear hS; intro a hS
      refine s_storeU hS hM rfl rfl (j := 0) rfl sz22 (by omega) ?_; clear hS hM; intro a w hS hM
      refine s_val hS (by decide) rfl rfl (r_assign hS rfl) ?_; clear hS; intro a hS
      refine s_nil ?_
      refine k_seq ?_
      refine c_region ?_
      refine s_val hS (by decide) rfl rfl (r_move hS rfl) ?_; clear hS; intro a hS
      refine s_val hS (by decide) rfl rfl (r_move hS rfl) ?_; clear hS; intro a hS
      refine s_val hS (by decide) rfl rfl (r_bv hS rfl rfl gU (b_addU _ _ _)) ?_; clear hS; intro a hS
      refine s_val hS (by decide) rfl rfl (r_assign hS rfl) ?_; clear hS; intro a hS
      refine s_nil ?_
      refine k_in ?_
      refine k_seq ?_
      refine c_region ?_
      refine s_val hS (by decide) rfl rfl (r_move hS rfl) ?_; clear hS; intro a hS
      refine s_val hS (by decide) rfl rfl (r_bv hS rfl (show ev _ _ = some (N 1) from rfl) gN (b_addN _ _ _ (by omega))) ?_; clear hS; intro a hS
      refine s_val hS (by decide) rfl rfl (r_assign hS rfl) ?_; clear hS; intro a hS
      refine s_nil ?_
      refine k_then ?_
      refine ⟨j + 1, by omega, by omega, hS.to _ ⟨rfl, rfl, rfl, rfl, rfl, congrArg (fun q => some (U q)) (by rw [wT_at, ← wC_step]; rfl), rfl, rfl, trivial⟩, (hM.congr (by rw [wT_at, ← wT_step]; rfl))⟩
    · obtain rfl : j = 4 - i := (by have := of_decide_eq_false hc; omega); rw [wP_next A B i hk1] at hM
      refine c_exit ?_
      refine k_thenx ?_
      refine k_thenx ?_
      refine k_inx ?_
      refine k_in ?_
      refine k_seq ?_
      refine c_region ?_
      refine s_val hS (by decide) rfl rfl (r_bv hS rfl (show ev _ _ = some (N 1) from rfl) gN (b_addN _ _ _ (by omega))) ?_; clear hS; intro a hS
      refine s_val hS (by decide) rfl rfl (r_move hS rfl) ?_; clear hS; intro a hS
      refine s_nil ?_
      refine k_then ?_
      refine ⟨i + 1, by omega, by omega, hS.to _ ⟨rfl, rfl, rfl, rfl, rfl, trivial⟩, hM⟩
  · obtain rfl : i = 4 := (by have := of_decide_eq_false hc; omega); rw [wP_all hA] at hM
    refine c_exit ?_
    refine k_thenx ?_
    refine k_thenx ?_
    refine k_inx ?_
    refine k_seq ?_
    refine c_seq ?_
    refine c_region ?_
    refine s_val hS (by decide) rfl rfl (r_loadAll hS hM rfl (j := 0) rfl Try.underlying34 rfl sz34 cells_len) ?_; clear hS; intro a hS
    refine s_storeAll hS hM rfl rfl (j := 1) rfl sz34 cells_len cells_len cU_one ?_; clear hS hM; intro a w hS hM
    refine s_nil ?_
    refine k_seq ?_
    refine c_ret ?_
    exact k_res1 hS rfl (RV.row rfl (hM.have_ _ (mem_of_get (j := 1) rfl)) Try.underlying34 rfl (by rw [sz34]; exact congrArg some cells_len.symm)) ⟨rfl, hM.done ⟨hb5, hb4, hb3, hb2, trivial⟩⟩

set_option maxRecDepth 100000 in
theorem wabove_ok (A B : Nat) (hA : A < 2 ^ (64 * 4)) (hB : B < 2 ^ (64 * 4)) (w0 : World) : Pure Try.prog 22 #[.agg (cU 4 (limb A)).toArray, .agg (cU 4 (limb B)).toArray] w0 (.bool (decide (B < A))) := by
  refine ⟨by kernel_rfl, ?_⟩
  refine calls_sym Try.func22 rfl (by kernel_rfl) ?_
  intro a hS
  have hM : Mem w0 w0 [] := Mem.refl w0
  refine c_seq ?_
  refine c_region ?_
  refine s_box hS hM (by decide) rfl rfl ?_; clear hS hM; intro a b2 w hb2 hS hM
  refine s_box hS hM (by decide) rfl rfl ?_; clear hS hM; intro a b3 w hb3 hS hM
  refine s_val hS (by decide) rfl rfl (r_assign hS rfl) ?_; clear hS; intro a hS
  refine s_nil ?_
  refine k_seq ?_
  refine c_seq ?_
  refine c_seq ?_
  refine c_region ?_
  refine s_val hS (by decide) rfl rfl (r_assign hS (show ev _ _ = some (N 3) from rfl)) ?_; clear hS; intro a hS
  refine s_nil ?_
  refine k_seq ?_
  refine c_block ?_
  refine c_loop (σ := Nat) (fun k a w => (k ≤ 4 ∧ A / 2 ^ (64 * k) = B / 2 ^ (64 * k)) ∧ Slots a 24 (env [(2, ptr b2 0), (3, ptr b3 0), (5, .int .i64 ((k : Int) - 1))]) ∧ Mem w0 w ([⟨b3, 34, cU 4 (limb B)⟩, ⟨b2, 34, cU 4 (limb A)⟩])) (fun k => k) (4) ⟨⟨by omega, cmp_top hA hB⟩, hS.to _ ⟨rfl, rfl, rfl, trivial⟩, hM⟩ ?_
  clear hS hM; rintro k a w ⟨hk, hS, hM⟩
  refine c_seq ?_
  refine c_seq ?_
  refine c_region ?_
  refine s_val hS (by decide) rfl rfl (r_move hS rfl) ?_; clear hS; intro a hS
  refine s_val hS (by decide) rfl rfl (r_bv hS rfl (show ev _ _ = some (.int .i64 (0)) from rfl) gZ (b_geqZ _ _ _)) ?_; clear hS; intro a hS
  refine s_nil ?_
  refine k_seq ?_
  refine c_cond hS rfl (fun hc => ?_) (fun hc => ?_)
  · have hk1 := of_decide_eq_true hc; obtain ⟨j, rfl⟩ : ∃ j : Nat, k = j + 1 := ⟨k - 1, by omega⟩; rw [show ((j + 1 : Nat) : Int) - 1 = (j : Int) by omega] at hS
    refine c_skip ?_
    refine k_seq ?_
    refine c_seq ?_
    refine c_block ?_
    refine c_seq ?_
    refine c_plan 7 (fun w => Mem w0 w _) [(5, _), (2, _), (3, _), (6, _), (7, _)] (by kernel_rfl) (by kernel_rfl) hS ⟨rfl, rfl, rfl, rfl, rfl, trivial⟩ (hM.drawn _) ?_; clear hS hM
    refine p_step rfl (fun a w hS hM => y_val rfl (r_move hS rfl)) ?_
    refine p_step rfl (fun a w hS hM => y_val rfl (r_index0 hS rfl rfl Try.underlying34 sz22 (by omega))) ?_
    refine p_step rfl (fun a w hS hM => y_val rfl (r_load hS hM rfl (j := 1) rfl Try.underlying22 rfl (cells_get (by omega)))) ?_
    refine p_step rfl (fun a w hS hM => y_val rfl (r_move hS rfl)) ?_
    refine p_step rfl (fun a w hS hM => y_val rfl (r_index0 hS rfl rfl Try.underlying34 sz22 (by omega))) ?_
    refine p_step rfl (fun a w hS hM => y_val rfl (r_load hS hM rfl (j := 0) rfl Try.underlying22 rfl (cells_get (by omega)))) ?_
    refine p_step rfl (fun a w hS hM => y_val rfl (r_bv hS rfl rfl gU (b_neqU _ _ _))) ?_
    refine p_nil rfl ?_; intro a w hS hM
    refine s_nil ?_
    refine k_seq ?_
    refine c_cond hS rfl (fun hc => ?_) (fun hc => ?_)
    · have hk2 : ¬ limb A j = limb B j := by simpa using hc
      refine c_seq ?_
      refine c_plan 8 (fun w => Mem w0 w _) [(5, _), (2, _), (3, _), (6, _), (7, _), (10, _), (11, _), (12, _), (13, _), (14, _), (15, _), (16, _)] (by kernel_rfl) (by kernel_rfl) hS ⟨rfl, rfl, rfl, rfl, rfl, rfl, rfl, rfl, rfl, rfl, rfl, rfl, trivial⟩ (hM.drawn _) ?_; clear hS hM
      refine p_step rfl (fun a w hS hM => y_val rfl (r_move hS rfl)) ?_
      refine p_step rfl (fun a w hS hM => y_val rfl (r_index0 hS rfl rfl Try.underlying34 sz22 (by omega))) ?_
      refine p_step rfl (fun a w hS hM => y_val rfl (r_load hS hM rfl (j := 1) rfl Try.underlying22 rfl (cells_get (by omega)))) ?_
      refine p_step rfl (fun a w hS hM => y_val rfl (r_move hS rfl)) ?_
      refine p_step rfl (fun a w hS hM => y_val rfl (r_index0 hS rfl rfl Try.underlying34 sz22 (by omega))) ?_
      refine p_step rfl (fun a w hS hM => y_val rfl (r_load hS hM rfl (j := 0) rfl Try.underlying22 rfl (cells_get (by omega)))) ?_
      refine p_step rfl (fun a w hS hM => y_val rfl (r_bv hS rfl rfl gU (b_gtrU _ _ _))) ?_
      refine p_step rfl (fun a w hS hM => y_val rfl (r_assign hS rfl)) ?_
      refine p_nil rfl ?_; intro a w hS hM
      refine s_nil ?_
      refine k_seq ?_
      refine c_ret ?_
      refine k_inr ?_
      refine k_thenr ?_
      refine k_thenr ?_
      refine k_inr ?_
      refine k_thenr ?_
      exact k_res1 hS rfl (RV.tmp rfl) ⟨(congrArg (fun q => Ending.returned (.bool q)) (by first | exact above_limb' hk2 hk.2 | exact above_no64 hk.2)), hM.done ⟨hb3, hb2, trivial⟩⟩
    · have hk2 : limb A j = limb B j := by simpa using hc
      refine c_skip ?_
      refine k_in ?_
      refine k_seq ?_
      refine c_region ?_
      refine s_val hS (by decide) rfl rfl (r_move hS rfl) ?_; clear hS; intro a hS
      refine s_val hS (by decide) rfl rfl (r_bv hS rfl (show ev _ _ = some (.int .i64 (1)) from rfl) gZ (b_subZ _ _ _ (by omega))) ?_; clear hS; intro a hS
      refine s_val hS (by decide) rfl rfl (r_assign hS rfl) ?_; clear hS; intro a hS
      refine s_nil ?_
      refine k_then ?_
      refine ⟨j, by omega, ⟨by omega, cmp_eq hk.2 (limb_same.1 hk2)⟩, hS.to _ ⟨rfl, rfl, rfl, trivial⟩, hM⟩
  · obtain rfl : k = 0 := by have := of_decide_eq_false hc; omega
    refine c_exit ?_
    refine k_thenx ?_
    refine k_thenx ?_
    refine k_inx ?_
    refine k_seq ?_
    refine c_seq ?_
    refine c_region ?_
    refine s_val hS (by decide) rfl rfl (r_assign hS rfl) ?_; clear hS; intro a hS
    refine s_nil ?_
    refine k_seq ?_
    refine c_ret ?_
    exact k_res1 hS rfl (RV.tmp rfl) ⟨(congrArg (fun q => Ending.returned (.bool q)) (by first | exact above_limb' hk2 hk.2 | exact above_no64 hk.2)), hM.done ⟨hb3, hb2, trivial⟩⟩

set_option maxRecDepth 100000 in
theorem square_ok (p : BitVec 64) (w0 : World) : Pure Try.prog 9 #[U p] w0 (U (sqU p)) := by
  refine ⟨by kernel_rfl, ?_⟩
  refine calls_sym Try.func9 rfl (by kernel_rfl) ?_
  intro a hS
  have hM : Mem w0 w0 [] := Mem.refl w0
  refine c_seq ?_
  refine c_region ?_
  refine s_val hS (by decide) rfl rfl (r_assign hS (show ev _ _ = some (U 0#64) from rfl)) ?_; clear hS; intro a hS
  refine s_nil ?_
  refine k_seq ?_
  refine c_seq ?_
  refine c_seq ?_
  refine c_region ?_
  refine s_val hS (by decide) rfl rfl (r_move hS rfl) ?_; clear hS; intro a hS
  refine s_val hS (by decide) rfl rfl (r_bv hS rfl (show ev _ _ = some (U 4294967296#64) from rfl) gU (b_geqU _ _ _)) ?_; clear hS; intro a hS
  refine s_nil ?_
  refine k_seq ?_
  refine c_cond hS rfl (fun hc => ?_) (fun hc => ?_)
  · have h1 : ¬ p.toNat < 4294967296 := Nat.not_lt.2 (of_decide_eq_true hc)
    refine c_seq ?_
    refine c_region ?_
    refine s_val hS (by decide) rfl rfl (r_assign hS (show ev _ _ = some (U 0#64) from rfl)) ?_; clear hS; intro a hS
    refine s_nil ?_
    refine k_seq ?_
    refine c_ret ?_
    refine k_thenr ?_
    exact k_res1 hS rfl (RV.tmp rfl) ⟨(congrArg (fun q => Ending.returned (U q)) (by first | exact (by rw [sqU_no h1]) | exact sq_end h1)), hM.done trivial⟩
  · have h1 : p.toNat < 4294967296 := Nat.lt_of_not_le (of_decide_eq_false hc)
    refine c_skip ?_
    refine k_seq ?_
    refine c_seq ?_
    refine c_region ?_
    refine s_alloc hS hM (by decide) zero34 ?_; clear hS hM; intro a b3 w hb3 hS hM
    refine s_nil ?_
    refine k_seq ?_
    refine c_seq ?_
    refine c_region ?_
    refine s_val hS (by decide) rfl rfl (r_move hS rfl) ?_; clear hS; intro a hS
    refine s_pure hS hM (by decide) (vs := [_, N 2]) rfl (shifted_ok _ _ (by decide) _) ?_; clear hS hM; intro a w hS hM
    refine s_alloc hS hM (by decide) zero34 ?_; clear hS hM; intro a b4 w hb4 hS hM
    refine s_storeAll hS hM rfl rfl (j := 0) rfl sz34 cells_len cells_len cU_one ?_; clear hS hM; intro a w hS hM
    rw [shift2] at hM
    refine s_nil ?_
    refine k_seq ?_
    refine c_seq ?_
    refine c_seq ?_
    refine c_region ?_
    refine s_val hS (by decide) rfl rfl (r_assign hS (show ev _ _ = some (N 79) from rfl)) ?_; clear hS; intro a hS
    refine s_nil ?_
    refine k_seq ?_
    refine c_block ?_
    refine c_loop (σ := Nat) (fun j a w => (j ≤ 80) ∧ Slots a 27 (env [(3, ptr b3 0), (4, ptr b4 0), (5, .int .i64 (79 - (j : Int)))]) ∧ Mem w0 w ([⟨b4, 34, cU 4 (limb (sqG p.toNat))⟩, ⟨b3, 34, cU 4 (limb (sr 2 (sqG p.toNat) 80 j))⟩])) (fun j => 80 - j) (0) ⟨by omega, hS.to _ ⟨rfl, rfl, rfl, trivial⟩, (by rw [show sr 2 (sqG p.toNat) 80 0 = 0 by unfold sr; rfl, limb_nul]; exact hM)⟩ ?_
    clear hS hM; rintro j a w ⟨hk, hS, hM⟩
    refine c_seq ?_
    refine c_seq ?_
    refine c_region ?_
    refine s_val hS (by decide) rfl rfl (r_move hS rfl) ?_; clear hS; intro a hS
    refine s_val hS (by decide) rfl rfl (r_bv hS rfl (show ev _ _ = some (.int .i64 (0)) from rfl) gZ (b_geqZ _ _ _)) ?_; clear hS; intro a hS
    refine s_nil ?_
    refine k_seq ?_
    refine c_cond hS rfl (fun hc => ?_) (fun hc => ?_)
    · have hk1 := of_decide_eq_true hc; have hk2 : j ≤ 79 := (by omega); rw [show (79 : Int) - (j : Int) = ((79 - j : Nat) : Int) by omega] at hS
      refine c_skip ?_
      refine k_seq ?_
      refine c_seq ?_
      refine c_block ?_
      refine c_seq ?_
      refine c_region ?_
      refine s_val hS (by decide) rfl rfl (r_loadAll hS hM rfl (j := 1) rfl Try.underlying34 rfl sz34 cells_len) ?_; clear hS; intro a hS
      refine s_val hS (by decide) rfl rfl (r_move hS rfl) ?_; clear hS; intro a hS
      refine s_pure hS hM (by decide) rfl (wbit_ok _ _ (by omega) _) ?_; clear hS hM; intro a w hS hM
      refine s_alloc hS hM (by decide) zero34 ?_; clear hS hM; intro a b6 w hb6 hS hM
      refine s_storeAll hS hM rfl rfl (j := 0) rfl sz34 cells_len cells_len cU_one ?_; clear hS hM; intro a w hS hM
      rw [bit_or (sr80_bit 2 (sqG p.toNat) hk2)] at hM
      have hx := sr80_lt 2 (sqG p.toNat) hk2
      refine s_nil ?_
      refine k_seq ?_
      refine c_seq ?_
      refine c_plan 6 (fun w => Mem w0 w _) [(6, _), (4, _), (3, _), (5, _), (11, _), (12, _), (15, _), (16, _), (17, _)] (by kernel_rfl) (by kernel_rfl) hS ⟨rfl, rfl, rfl, rfl, rfl, rfl, rfl, rfl, rfl, trivial⟩ (hM.drawn _) ?_; clear hS hM
      refine p_step rfl (fun a w hS hM => y_val rfl (r_loadAll hS hM rfl (j := 0) rfl Try.underlying34 rfl sz34 cells_len)) ?_
      refine p_step rfl (fun a w hS hM => y_val rfl (r_loadAll hS hM rfl (j := 0) rfl Try.underlying34 rfl sz34 cells_len)) ?_
      refine p_step rfl (fun a w hS hM => y_call (by kernel_rfl) hS rfl ((wtimes_ok _ _ (lt_256 hx (by decide)) _).mem hM)) ?_
      refine p_step rfl (fun a w hS hM => y_val rfl (r_loadAll hS hM rfl (j := 1) rfl Try.underlying34 rfl sz34 cells_len)) ?_
      refine p_step rfl (fun a w hS hM => y_call (by kernel_rfl) hS rfl ((wabove_ok _ _ (Nat.mod_lt _ (Nat.two_pow_pos _)) (lt_256 (sqG_160 h1) (by decide)) _).mem hM)) ?_
      refine p_step rfl (fun a w hS hM => y_val rfl (r_not hS rfl)) ?_
      refine p_nil rfl ?_; intro a w hS hM
      refine s_nil ?_
      refine k_seq ?_
      refine c_cond hS rfl (fun hc => ?_) (fun hc => ?_)
      · have h3 : ((sr 2 (sqG p.toNat) 80 j) + 2 ^ (79 - j)) ^ 2 ≤ sqG p.toNat := by rw [sq_whole hx] at hc; simpa using hc
        refine c_region ?_
        refine s_val hS (by decide) rfl rfl (r_loadAll hS hM rfl (j := 0) rfl Try.underlying34 rfl sz34 cells_len) ?_; clear hS; intro a hS
        refine s_storeAll hS hM rfl rfl (j := 2) rfl sz34 cells_len cells_len cU_one ?_; clear hS hM; intro a w hS hM
        refine s_nil ?_
        refine k_in ?_
        refine k_seq ?_
        refine c_region ?_
        refine s_val hS (by decide) rfl rfl (r_move hS rfl) ?_; clear hS; intro a hS
        refine s_val hS (by decide) rfl rfl (r_bv hS rfl (show ev _ _ = some (.int .i64 (1)) from rfl) gZ (b_subZ _ _ _ (by omega))) ?_; clear hS; intro a hS
        refine s_val hS (by decide) rfl rfl (r_assign hS rfl) ?_; clear hS; intro a hS
        refine s_nil ?_
        refine k_then ?_
        refine ⟨j + 1, by omega, by omega, hS.to _ ⟨rfl, rfl, congrArg (fun q => some (Value.int .i64 q)) (by omega), trivial⟩, (by first | exact (hM.drop hb6).congr (by rw [sr80_yes h3]; try rfl) | exact (hM.drop hb6).congr (by rw [sr80_no h3]; try rfl))⟩
      · have h3 : ¬ ((sr 2 (sqG p.toNat) 80 j) + 2 ^ (79 - j)) ^ 2 ≤ sqG p.toNat := by rw [sq_whole hx] at hc; simpa using hc
        refine c_skip ?_
        refine k_in ?_
        refine k_seq ?_
        refine c_region ?_
        refine s_val hS (by decide) rfl rfl (r_move hS rfl) ?_; clear hS; intro a hS
        refine s_val hS (by decide) rfl rfl (r_bv hS rfl (show ev _ _ = some (.int .i64 (1)) from rfl) gZ (b_subZ _ _ _ (by omega))) ?_; clear hS; intro a hS
        refine s_val hS (by decide) rfl rfl (r_assign hS rfl) ?_; clear hS; intro a hS
        refine s_nil ?_
        refine k_then ?_
        refine ⟨j + 1, by omega, by omega, hS.to _ ⟨rfl, rfl, congrArg (fun q => some (Value.int .i64 q)) (by omega), trivial⟩, (by first | exact (hM.drop hb6).congr (by rw [sr80_yes h3]; try rfl) | exact (hM.drop hb6).congr (by rw [sr80_no h3]; try rfl))⟩
    · obtain rfl : j = 80 := by have := of_decide_eq_false hc; omega
      refine c_exit ?_
      refine k_thenx ?_
      refine k_thenx ?_
      refine k_inx ?_
      refine k_seq ?_
      refine c_seq ?_
      refine c_region ?_
      refine s_val hS (by decide) rfl rfl (r_index0 hS rfl (show ev _ _ = some (.int .i64 ((0 : Nat) : Int)) from rfl) Try.underlying34 sz22 (by decide)) ?_; clear hS; intro a hS
      refine s_val hS (by decide) rfl rfl (r_load hS hM rfl (j := 1) rfl Try.underlying22 rfl (cells_get (by omega))) ?_; clear hS; intro a hS
      refine s_val hS (by decide) rfl rfl (r_assign hS rfl) ?_; clear hS; intro a hS
      refine s_nil ?_
      refine k_seq ?_
      refine c_ret ?_
      exact k_res1 hS rfl (RV.tmp rfl) ⟨(congrArg (fun q => Ending.returned (U q)) (by first | exact (by rw [sqU_no h1]) | exact sq_end h1)), hM.done ⟨hb4, hb3, trivial⟩⟩

set_option maxRecDepth 100000 in
theorem cube_ok (p : BitVec 64) (w0 : World) : Pure Try.prog 11 #[U p] w0 (U (cuU p)) := by
  refine ⟨by kernel_rfl, ?_⟩
  refine calls_sym Try.func11 rfl (by kernel_rfl) ?_
  intro a hS
  have hM : Mem w0 w0 [] := Mem.refl w0
  refine c_seq ?_
  refine c_region ?_
  refine s_val hS (by decide) rfl rfl (r_assign hS (show ev _ _ = some (U 0#64) from rfl)) ?_; clear hS; intro a hS
  refine s_nil ?_
  refine k_seq ?_
  refine c_seq ?_
  refine c_seq ?_
  refine c_region ?_
  refine s_val hS (by decide) rfl rfl (r_move hS rfl) ?_; clear hS; intro a hS
  refine s_val hS (by decide) rfl rfl (r_bv hS rfl (show ev _ _ = some (U 4294967296#64) from rfl) gU (b_geqU _ _ _)) ?_; clear hS; intro a hS
  refine s_nil ?_
  refine k_seq ?_
  refine c_cond hS rfl (fun hc => ?_) (fun hc => ?_)
  · have h1 : ¬ p.toNat < 4294967296 := Nat.not_lt.2 (of_decide_eq_true hc)
    refine c_seq ?_
    refine c_region ?_
    refine s_val hS (by decide) rfl rfl (r_assign hS (show ev _ _ = some (U 0#64) from rfl)) ?_; clear hS; intro a hS
    refine s_nil ?_
    refine k_seq ?_
    refine c_ret ?_
    refine k_thenr ?_
    exact k_res1 hS rfl (RV.tmp rfl) ⟨(congrArg (fun q => Ending.returned (U q)) (by first | exact (by rw [cuU_no h1]) | exact cu_end h1)), hM.done trivial⟩
  · have h1 : p.toNat < 4294967296 := Nat.lt_of_not_le (of_decide_eq_false hc)
    refine c_skip ?_
    refine k_seq ?_
    refine c_seq ?_
    refine c_region ?_
    refine s_alloc hS hM (by decide) zero34 ?_; clear hS hM; intro a b3 w hb3 hS hM
    refine s_nil ?_
    refine k_seq ?_
    refine c_seq ?_
    refine c_region ?_
    refine s_val hS (by decide) rfl rfl (r_move hS rfl) ?_; clear hS; intro a hS
    refine s_pure hS hM (by decide) (vs := [_, N 3]) rfl (shifted_ok _ _ (by decide) _) ?_; clear hS hM; intro a w hS hM
    refine s_alloc hS hM (by decide) zero34 ?_; clear hS hM; intro a b4 w hb4 hS hM
    refine s_storeAll hS hM rfl rfl (j := 0) rfl sz34 cells_len cells_len cU_one ?_; clear hS hM; intro a w hS hM
    rw [shift3] at hM
    refine s_nil ?_
    refine k_seq ?_
    refine c_seq ?_
    refine c_seq ?_
    refine c_region ?_
    refine s_val hS (by decide) rfl rfl (r_assign hS (show ev _ _ = some (N 74) from rfl)) ?_; clear hS; intro a hS
    refine s_nil ?_
    refine k_seq ?_
    refine c_block ?_
    refine c_loop (σ := Nat) (fun j a w => (j ≤ 75) ∧ Slots a 29 (env [(3, ptr b3 0), (4, ptr b4 0), (5, .int .i64 (74 - (j : Int)))]) ∧ Mem w0 w ([⟨b4, 34, cU 4 (limb (cuG p.toNat))⟩, ⟨b3, 34, cU 4 (limb (sr 3 (cuG p.toNat) 75 j))⟩])) (fun j => 75 - j) (0) ⟨by omega, hS.to _ ⟨rfl, rfl, rfl, trivial⟩, (by rw [show sr 3 (cuG p.toNat) 75 0 = 0 by unfold sr; rfl, limb_nul]; exact hM)⟩ ?_
    clear hS hM; rintro j a w ⟨hk, hS, hM⟩
    refine c_seq ?_
    refine c_seq ?_
    refine c_region ?_
    refine s_val hS (by decide) rfl rfl (r_move hS rfl) ?_; clear hS; intro a hS
    refine s_val hS (by decide) rfl rfl (r_bv hS rfl (show ev _ _ = some (.int .i64 (0)) from rfl) gZ (b_geqZ _ _ _)) ?_; clear hS; intro a hS
    refine s_nil ?_
    refine k_seq ?_
    refine c_cond hS rfl (fun hc => ?_) (fun hc => ?_)
    · have hk1 := of_decide_eq_true hc; have hk2 : j ≤ 74 := (by omega); rw [show (74 : Int) - (j : Int) = ((74 - j : Nat) : Int) by omega] at hS
      refine c_skip ?_
      refine k_seq ?_
      refine c_seq ?_
      refine c_block ?_
      refine c_seq ?_
      refine c_region ?_
      refine s_val hS (by decide) rfl rfl (r_loadAll hS hM rfl (j := 1) rfl Try.underlying34 rfl sz34 cells_len) ?_; clear hS; intro a hS
      refine s_val hS (by decide) rfl rfl (r_move hS rfl) ?_; clear hS; intro a hS
      refine s_pure hS hM (by decide) rfl (wbit_ok _ _ (by omega) _) ?_; clear hS hM; intro a w hS hM
      refine s_alloc hS hM (by decide) zero34 ?_; clear hS hM; intro a b6 w hb6 hS hM
      refine s_storeAll hS hM rfl rfl (j := 0) rfl sz34 cells_len cells_len cU_one ?_; clear hS hM; intro a w hS hM
      rw [bit_or (sr75_bit 3 (cuG p.toNat) hk2)] at hM
      have hx := sr75_lt 3 (cuG p.toNat) hk2
      refine s_nil ?_
      refine k_seq ?_
      refine c_seq ?_
      refine c_plan 8 (fun w => Mem w0 w _) [(6, _), (4, _), (3, _), (5, _), (11, _), (12, _), (15, _), (16, _), (17, _)] (by kernel_rfl) (by kernel_rfl) hS ⟨rfl, rfl, rfl, rfl, rfl, rfl, rfl, rfl, rfl, trivial⟩ (hM.drawn _) ?_; clear hS hM
      refine p_step rfl (fun a w hS hM => y_val rfl (r_loadAll hS hM rfl (j := 0) rfl Try.underlying34 rfl sz34 cells_len)) ?_
      refine p_step rfl (fun a w hS hM => y_val rfl (r_loadAll hS hM rfl (j := 0) rfl Try.underlying34 rfl sz34 cells_len)) ?_
      refine p_step rfl (fun a w hS hM => y_call (by kernel_rfl) hS rfl ((wtimes_ok _ _ (lt_256 hx (by decide)) _).mem hM)) ?_
      refine p_step rfl (fun a w hS hM => y_val rfl (r_loadAll hS hM rfl (j := 0) rfl Try.underlying34 rfl sz34 cells_len)) ?_
      refine p_step rfl (fun a w hS hM => y_call (by kernel_rfl) hS rfl ((wtimes_ok _ _ (Nat.mod_lt _ (Nat.two_pow_pos _)) _).mem hM)) ?_
      refine p_step rfl (fun a w hS hM => y_val rfl (r_loadAll hS hM rfl (j := 1) rfl Try.underlying34 rfl sz34 cells_len)) ?_
      refine p_step rfl (fun a w hS hM => y_call (by kernel_rfl) hS rfl ((wabove_ok _ _ (Nat.mod_lt _ (Nat.two_pow_pos _)) (lt_256 (cuG_225 h1) (by decide)) _).mem hM)) ?_
      refine p_step rfl (fun a w hS hM => y_val rfl (r_not hS rfl)) ?_
      refine p_nil rfl ?_; intro a w hS hM
      refine s_nil ?_
      refine k_seq ?_
      refine c_cond hS rfl (fun hc => ?_) (fun hc => ?_)
      · have h3 : ((sr 3 (cuG p.toNat) 75 j) + 2 ^ (74 - j)) ^ 3 ≤ cuG p.toNat := by rw [cu_whole hx] at hc; simpa using hc
        refine c_region ?_
        refine s_val hS (by decide) rfl rfl (r_loadAll hS hM rfl (j := 0) rfl Try.underlying34 rfl sz34 cells_len) ?_; clear hS; intro a hS
        refine s_storeAll hS hM rfl rfl (j := 2) rfl sz34 cells_len cells_len cU_one ?_; clear hS hM; intro a w hS hM
        refine s_nil ?_
        refine k_in ?_
        refine k_seq ?_
        refine c_region ?_
        refine s_val hS (by decide) rfl rfl (r_move hS rfl) ?_; clear hS; intro a hS
        refine s_val hS (by decide) rfl rfl (r_bv hS rfl (show ev _ _ = some (.int .i64 (1)) from rfl) gZ (b_subZ _ _ _ (by omega))) ?_; clear hS; intro a hS
        refine s_val hS (by decide) rfl rfl (r_assign hS rfl) ?_; clear hS; intro a hS
        refine s_nil ?_
        refine k_then ?_
        refine ⟨j + 1, by omega, by omega, hS.to _ ⟨rfl, rfl, congrArg (fun q => some (Value.int .i64 q)) (by omega), trivial⟩, (by first | exact (hM.drop hb6).congr (by rw [sr75_yes h3]; try rfl) | exact (hM.drop hb6).congr (by rw [sr75_no h3]; try rfl))⟩
      · have h3 : ¬ ((sr 3 (cuG p.toNat) 75 j) + 2 ^ (74 - j)) ^ 3 ≤ cuG p.toNat := by rw [cu_whole hx] at hc; simpa using hc
        refine c_skip ?_
        refine k_in ?_
        refine k_seq ?_
        refine c_region ?_
        refine s_val hS (by decide) rfl rfl (r_move hS rfl) ?_; clear hS; intro a hS
        refine s_val hS (by decide) rfl rfl (r_bv hS rfl (show ev _ _ = some (.int .i64 (1)) from rfl) gZ (b_subZ _ _ _ (by omega))) ?_; clear hS; intro a hS
        refine s_val hS (by decide) rfl rfl (r_assign hS rfl) ?_; clear hS; intro a hS
        refine s_nil ?_
        refine k_then ?_
        refine ⟨j + 1, by omega, by omega, hS.to _ ⟨rfl, rfl, congrArg (fun q => some (Value.int .i64 q)) (by omega), trivial⟩, (by first | exact (hM.drop hb6).congr (by rw [sr75_yes h3]; try rfl) | exact (hM.drop hb6).congr (by rw [sr75_no h3]; try rfl))⟩
    · obtain rfl : j = 75 := by have := of_decide_eq_false hc; omega
      refine c_exit ?_
      refine k_thenx ?_
      refine k_thenx ?_
      refine k_inx ?_
      refine k_seq ?_
      refine c_seq ?_
      refine c_region ?_
      refine s_val hS (by decide) rfl rfl (r_index0 hS rfl (show ev _ _ = some (.int .i64 ((0 : Nat) : Int)) from rfl) Try.underlying34 sz22 (by decide)) ?_; clear hS; intro a hS
      refine s_val hS (by decide) rfl rfl (r_load hS hM rfl (j := 1) rfl Try.underlying22 rfl (cells_get (by omega))) ?_; clear hS; intro a hS
      refine s_val hS (by decide) rfl rfl (r_assign hS rfl) ?_; clear hS; intro a hS
      refine s_nil ?_
      refine k_seq ?_
      refine c_ret ?_
      exact k_res1 hS rfl (RV.tmp rfl) ⟨(congrArg (fun q => Ending.returned (U q)) (by first | exact (by rw [cuU_no h1]) | exact cu_end h1)), hM.done ⟨hb4, hb3, trivial⟩⟩

set_option maxRecDepth 100000 in
theorem digit_ok (w0 : World) {v : Value} {m : Nat} {A : Nat} (hr : Rd w0 v m (fun i => U (dig A i))) (hA : A < 2 ^ (16 * m)) (i : Nat) : Pure Try.prog 28 #[v, N i] w0 (U (dig A i)) := by
  refine ⟨by kernel_rfl, ?_⟩
  refine calls_sym Try.func28 rfl (by kernel_rfl) ?_
  intro a hS
  have hM : Mem w0 w0 [] := Mem.refl w0
  refine c_seq ?_
  refine c_region ?_
  refine s_val hS (by decide) rfl rfl (r_assign hS (show ev _ _ = some (U 0#64) from rfl)) ?_; clear hS; intro a hS
  refine s_nil ?_
  refine k_seq ?_
  refine c_seq ?_
  refine c_seq ?_
  refine c_region ?_
  refine s_val hS (by decide) rfl rfl (r_move hS rfl) ?_; clear hS; intro a hS
  refine s_val hS (by decide) rfl rfl (r_move hS rfl) ?_; clear hS; intro a hS
  refine s_val hS (by decide) rfl rfl (r_lenR hS rfl (hr.keepGe hM trivial) Try.underlying26) ?_; clear hS; intro a hS
  refine s_val hS (by decide) rfl rfl (r_bv hS rfl rfl gN (b_lssN _ _ _)) ?_; clear hS; intro a hS
  refine s_nil ?_
  refine k_seq ?_
  refine c_cond hS rfl (fun hc => ?_) (fun hc => ?_)
  · have hk1 := of_decide_eq_true hc
    refine c_seq ?_
    refine c_region ?_
    refine s_val hS (by decide) rfl rfl (r_move hS rfl) ?_; clear hS; intro a hS
    refine s_val hS (by decide) rfl rfl (r_move hS rfl) ?_; clear hS; intro a hS
    refine s_val hS (by decide) rfl rfl (r_indexR hS rfl (hr.keepGe hM trivial) rfl Try.underlying26 sz22 (by omega)) ?_; clear hS; intro a hS
    refine s_val hS (by decide) rfl rfl (r_loadR hS rfl (hr.keepGe hM trivial) (by omega) Try.underlying22 rfl) ?_; clear hS; intro a hS
    refine s_val hS (by decide) rfl rfl (r_assign hS rfl) ?_; clear hS; intro a hS
    refine s_nil ?_
    refine k_seq ?_
    refine c_ret ?_
    refine k_thenr ?_
    exact k_res1 hS rfl (RV.tmp rfl) ⟨(congrArg (fun q => Ending.returned (U q)) (by first | rfl | exact (dig_beyond hA (by omega)).symm)), hM.done trivial⟩
  · have hk1 := of_decide_eq_false hc
    refine c_skip ?_
    refine k_seq ?_
    refine c_seq ?_
    refine c_region ?_
    refine s_val hS (by decide) rfl rfl (r_assign hS (show ev _ _ = some (U 0#64) from rfl)) ?_; clear hS; intro a hS
    refine s_nil ?_
    refine k_seq ?_
    refine c_ret ?_
    exact k_res1 hS rfl (RV.tmp rfl) ⟨(congrArg (fun q => Ending.returned (U q)) (by first | rfl | exact (dig_beyond hA (by omega)).symm)), hM.done trivial⟩

set_option maxRecDepth 100000 in
theorem above_ok (w0 : World) {v1 v2 : Value} {m1 m2 A B : Nat} (hr1 : Rd w0 v1 m1 (fun i => U (dig A i))) (hA : A < 2 ^ (16 * m1)) (hr2 : Rd w0 v2 m2 (fun i => U (dig B i))) (hB : B < 2 ^ (16 * m2)) (hm1 : m1 ≤ 1000) (hm2 : m2 ≤ 1000) : Pure Try.prog 27 #[v1, v2] w0 (.bool (decide (B < A))) := by
  refine ⟨by kernel_rfl, ?_⟩
  refine calls_sym Try.func27 rfl (by kernel_rfl) ?_
  intro a hS
  have hM : Mem w0 w0 [] := Mem.refl w0
  refine c_seq ?_
  refine c_region ?_
  refine s_val hS (by decide) rfl rfl (r_assign hS rfl) ?_; clear hS; intro a hS
  refine s_nil ?_
  refine k_seq ?_
  refine c_seq ?_
  refine c_region ?_
  refine s_val hS (by decide) rfl rfl (r_move hS rfl) ?_; clear hS; intro a hS
  refine s_val hS (by decide) rfl rfl (r_lenR hS rfl (hr1.keepGe hM trivial) Try.underlying26) ?_; clear hS; intro a hS
  refine s_val hS (by decide) rfl rfl (r_assign hS rfl) ?_; clear hS; intro a hS
  refine s_nil ?_
  refine k_seq ?_
  refine c_seq ?_
  refine c_seq ?_
  refine c_region ?_
  refine s_val hS (by decide) rfl rfl (r_move hS rfl) ?_; clear hS; intro a hS
  refine s_val hS (by decide) rfl rfl (r_lenR hS rfl (hr2.keepGe hM trivial) Try.underlying26) ?_; clear hS; intro a hS
  refine s_val hS (by decide) rfl rfl (r_move hS rfl) ?_; clear hS; intro a hS
  refine s_val hS (by decide) rfl rfl (r_bv hS rfl rfl gN (b_gtrN _ _ _)) ?_; clear hS; intro a hS
  refine s_nil ?_
  refine k_seq ?_
  refine c_cond hS rfl (fun hc => ?_) (fun hc => ?_)
  · have hk0 := of_decide_eq_true hc
    refine c_region ?_
    refine s_val hS (by decide) rfl rfl (r_move hS rfl) ?_; clear hS; intro a hS
    refine s_val hS (by decide) rfl rfl (r_lenR hS rfl (hr2.keepGe hM trivial) Try.underlying26) ?_; clear hS; intro a hS
    refine s_val hS (by decide) rfl rfl (r_assign hS rfl) ?_; clear hS; intro a hS
    refine s_nil ?_
    refine k_seq ?_
    refine c_seq ?_
    refine c_seq ?_
    refine c_region ?_
    refine s_val hS (by decide) rfl rfl (r_move hS rfl) ?_; clear hS; intro a hS
    refine s_val hS (by decide) rfl rfl (r_bv hS rfl (show ev _ _ = some (.int .i64 (1)) from rfl) gZ (b_subZ _ _ _ (by omega))) ?_; clear hS; intro a hS
    refine s_val hS (by decide) rfl rfl (r_assign hS rfl) ?_; clear hS; intro a hS
    refine s_nil ?_
    refine k_seq ?_
    refine c_block ?_
    refine c_loop (σ := Nat) (fun k a w => (k ≤ m2 ∧ A / 2 ^ (16 * k) = B / 2 ^ (16 * k)) ∧ Slots a 35 (env [(0, v1), (1, v2), (6, .int .i64 ((k : Int) - 1))]) ∧ Mem w0 w ([])) (fun k => k) (m2) ⟨⟨Nat.le_refl _, cmp_top (by first | exact hA | exact lt_more hA (by omega)) (by first | exact hB | exact lt_more hB (by omega))⟩, hS.to _ ⟨rfl, rfl, rfl, trivial⟩, hM⟩ ?_
    clear hS hM; rintro k a w ⟨hk, hS, hM⟩
    refine c_seq ?_
    refine c_seq ?_
    refine c_region ?_
    refine s_val hS (by decide) rfl rfl (r_move hS rfl) ?_; clear hS; intro a hS
    refine s_val hS (by decide) rfl rfl (r_bv hS rfl (show ev _ _ = some (.int .i64 (0)) from rfl) gZ (b_geqZ _ _ _)) ?_; clear hS; intro a hS
    refine s_nil ?_
    refine k_seq ?_
    refine c_cond hS rfl (fun hc => ?_) (fun hc => ?_)
    · have hk1 := of_decide_eq_true hc; obtain ⟨j, rfl⟩ : ∃ j : Nat, k = j + 1 := ⟨k - 1, by omega⟩; rw [show ((j + 1 : Nat) : Int) - 1 = (j : Int) by omega] at hS
      refine c_skip ?_
      refine k_seq ?_
      refine c_seq ?_
      refine c_block ?_
      refine c_seq ?_
      refine c_region ?_
      refine s_val hS (by decide) rfl rfl (r_move hS rfl) ?_; clear hS; intro a hS
      refine s_val hS (by decide) rfl rfl (r_move hS rfl) ?_; clear hS; intro a hS
      refine s_pure hS hM (by decide) rfl (digit_ok _ (hr1.keepGe hM trivial) hA _) ?_; clear hS hM; intro a w hS hM
      refine s_val hS (by decide) rfl rfl (r_move hS rfl) ?_; clear hS; intro a hS
      refine s_val hS (by decide) rfl rfl (r_move hS rfl) ?_; clear hS; intro a hS
      refine s_pure hS hM (by decide) rfl (digit_ok _ (hr2.keepGe hM trivial) hB _) ?_; clear hS hM; intro a w hS hM
      refine s_val hS (by decide) rfl rfl (r_bv hS rfl rfl gU (b_neqU _ _ _)) ?_; clear hS; intro a hS
      refine s_nil ?_
      refine k_seq ?_
      refine c_cond hS rfl (fun hc => ?_) (fun hc => ?_)
      · have hk2 : ¬ dig A j = dig B j := by simpa using hc
        refine c_seq ?_
        refine c_region ?_
        refine s_val hS (by decide) rfl rfl (r_move hS rfl) ?_; clear hS; intro a hS
        refine s_val hS (by decide) rfl rfl (r_move hS rfl) ?_; clear hS; intro a hS
        refine s_pure hS hM (by decide) rfl (digit_ok _ (hr1.keepGe hM trivial) hA _) ?_; clear hS hM; intro a w hS hM
        refine s_val hS (by decide) rfl rfl (r_move hS rfl) ?_; clear hS; intro a hS
        refine s_val hS (by decide) rfl rfl (r_move hS rfl) ?_; clear hS; intro a hS
        refine s_pure hS hM (by decide) rfl (digit_ok _ (hr2.keepGe hM trivial) hB _) ?_; clear hS hM; intro a w hS hM
        refine s_val hS (by decide) rfl rfl (r_bv hS rfl rfl gU (b_gtrU _ _ _)) ?_; clear hS; intro a hS
        refine s_val hS (by decide) rfl rfl (r_assign hS rfl) ?_; clear hS; intro a hS
        refine s_nil ?_
        refine k_seq ?_
        refine c_ret ?_
        refine k_inr ?_
        refine k_thenr ?_
        refine k_thenr ?_
        refine k_inr ?_
        refine k_thenr ?_
        exact k_res1 hS rfl (RV.tmp rfl) ⟨(congrArg (fun q => Ending.returned (.bool q)) (by first | exact above_dig' hk2 hk.2 | exact above_no16 hk.2)), hM.done trivial⟩
      · have hk2 : dig A j = dig B j := by simpa using hc
        refine c_skip ?_
        refine k_in ?_
        refine k_seq ?_
        refine c_region ?_
        refine s_val hS (by decide) rfl rfl (r_move hS rfl) ?_; clear hS; intro a hS
        refine s_val hS (by decide) rfl rfl (r_bv hS rfl (show ev _ _ = some (.int .i64 (1)) from rfl) gZ (b_subZ _ _ _ (by omega))) ?_; clear hS; intro a hS
        refine s_val hS (by decide) rfl rfl (r_assign hS rfl) ?_; clear hS; intro a hS
        refine s_nil ?_
        refine k_then ?_
        refine ⟨j, by omega, ⟨by omega, cmp_eq hk.2 (dig_same.1 hk2)⟩, hS.to _ ⟨rfl, rfl, rfl, trivial⟩, hM⟩
    · obtain rfl : k = 0 := by have := of_decide_eq_false hc; omega
      refine c_exit ?_
      refine k_thenx ?_
      refine k_thenx ?_
      refine k_inx ?_
      refine k_seq ?_
      refine c_seq ?_
      refine c_region ?_
      refine s_val hS (by decide) rfl rfl (r_assign hS rfl) ?_; clear hS; intro a hS
      refine s_nil ?_
      refine k_seq ?_
      refine c_ret ?_
      exact k_res1 hS rfl (RV.tmp rfl) ⟨(congrArg (fun q => Ending.returned (.bool q)) (by first | exact above_dig' hk2 hk.2 | exact above_no16 hk.2)), hM.done trivial⟩
  · have hk0 := of_decide_eq_false hc
    refine c_skip ?_
    refine k_seq ?_
    refine c_seq ?_
    refine c_seq ?_
    refine c_region ?_
    refine s_val hS (by decide) rfl rfl (r_move hS rfl) ?_; clear hS; intro a hS
    refine s_val hS (by decide) rfl rfl (r_bv hS rfl (show ev _ _ = some (.int .i64 (1)) from rfl) gZ (b_subZ _ _ _ (by omega))) ?_; clear hS; intro a hS
    refine s_val hS (by decide) rfl rfl (r_assign hS rfl) ?_; clear hS; intro a hS
    refine s_nil ?_
    refine k_seq ?_
    refine c_block ?_
    refine c_loop (σ := Nat) (fun k a w => (k ≤ m1 ∧ A / 2 ^ (16 * k) = B / 2 ^ (16 * k)) ∧ Slots a 35 (env [(0, v1), (1, v2), (6, .int .i64 ((k : Int) - 1))]) ∧ Mem w0 w ([])) (fun k => k) (m1) ⟨⟨Nat.le_refl _, cmp_top (by first | exact hA | exact lt_more hA (by omega)) (by first | exact hB | exact lt_more hB (by omega))⟩, hS.to _ ⟨rfl, rfl, rfl, trivial⟩, hM⟩ ?_
    clear hS hM; rintro k a w ⟨hk, hS, hM⟩
    refine c_seq ?_
    refine c_seq ?_
    refine c_region ?_
    refine s_val hS (by decide) rfl rfl (r_move hS rfl) ?_; clear hS; intro a hS
    refine s_val hS (by decide) rfl rfl (r_bv hS rfl (show ev _ _ = some (.int .i64 (0)) from rfl) gZ (b_geqZ _ _ _)) ?_; clear hS; intro a hS
    refine s_nil ?_
    refine k_seq ?_
    refine c_cond hS rfl (fun hc => ?_) (fun hc => ?_)
    · have hk1 := of_decide_eq_true hc; obtain ⟨j, rfl⟩ : ∃ j : Nat, k = j + 1 := ⟨k - 1, by omega⟩; rw [show ((j + 1 : Nat) : Int) - 1 = (j : Int) by omega] at hS
      refine c_skip ?_
      refine k_seq ?_
      refine c_seq ?_
      refine c_block ?_
      refine c_seq ?_
      refine c_region ?_
      refine s_val hS (by decide) rfl rfl (r_move hS rfl) ?_; clear hS; intro a hS
      refine s_val hS (by decide) rfl rfl (r_move hS rfl) ?_; clear hS; intro a hS
      refine s_pure hS hM (by decide) rfl (digit_ok _ (hr1.keepGe hM trivial) hA _) ?_; clear hS hM; intro a w hS hM
      refine s_val hS (by decide) rfl rfl (r_move hS rfl) ?_; clear hS; intro a hS
      refine s_val hS (by decide) rfl rfl (r_move hS rfl) ?_; clear hS; intro a hS
      refine s_pure hS hM (by decide) rfl (digit_ok _ (hr2.keepGe hM trivial) hB _) ?_; clear hS hM; intro a w hS hM
      refine s_val hS (by decide) rfl rfl (r_bv hS rfl rfl gU (b_neqU _ _ _)) ?_; clear hS; intro a hS
      refine s_nil ?_
      refine k_seq ?_
      refine c_cond hS rfl (fun hc => ?_) (fun hc => ?_)
      · have hk2 : ¬ dig A j = dig B j := by simpa using hc
        refine c_seq ?_
        refine c_region ?_
        refine s_val hS (by decide) rfl rfl (r_move hS rfl) ?_; clear hS; intro a hS
        refine s_val hS (by decide) rfl rfl (r_move hS rfl) ?_; clear hS; intro a hS
        refine s_pure hS hM (by decide) rfl (digit_ok _ (hr1.keepGe hM trivial) hA _) ?_; clear hS hM; intro a w hS hM
        refine s_val hS (by decide) rfl rfl (r_move hS rfl) ?_; clear hS; intro a hS
        refine s_val hS (by decide) rfl rfl (r_move hS rfl) ?_; clear hS; intro a hS
        refine s_pure hS hM (by decide) rfl (digit_ok _ (hr2.keepGe hM trivial) hB _) ?_; clear hS hM; intro a w hS hM
        refine s_val hS (by decide) rfl rfl (r_bv hS rfl rfl gU (b_gtrU _ _ _)) ?_; clear hS; intro a hS
        refine s_val hS (by decide) rfl rfl (r_assign hS rfl) ?_; clear hS; intro a hS
        refine s_nil ?_
        refine k_seq ?_
        refine c_ret ?_
        refine k_inr ?_
        refine k_thenr ?_
        refine k_thenr ?_
        refine k_inr ?_
        refine k_thenr ?_
        exact k_res1 hS rfl (RV.tmp rfl) ⟨(congrArg (fun q => Ending.returned (.bool q)) (by first | exact above_dig' hk2 hk.2 | exact above_no16 hk.2)), hM.done trivial⟩
      · have hk2 : dig A j = dig B j := by simpa using hc
        refine c_skip ?_
        refine k_in ?_
        refine k_seq ?_
        refine c_region ?_
        refine s_val hS (by decide) rfl rfl (r_move hS rfl) ?_; clear hS; intro a hS
        refine s_val hS (by decide) rfl rfl (r_bv hS rfl (show ev _ _ = some (.int .i64 (1)) from rfl) gZ (b_subZ _ _ _ (by omega))) ?_; clear hS; intro a hS
        refine s_val hS (by decide) rfl rfl (r_assign hS rfl) ?_; clear hS; intro a hS
        refine s_nil ?_
        refine k_then ?_
        refine ⟨j, by omega, ⟨by omega, cmp_eq hk.2 (dig_same.1 hk2)⟩, hS.to _ ⟨rfl, rfl, rfl, trivial⟩, hM⟩
    · obtain rfl : k = 0 := by have := of_decide_eq_false hc; omega
      refine c_exit ?_
      refine k_thenx ?_
      refine k_thenx ?_
      refine k_inx ?_
      refine k_seq ?_
      refine c_seq ?_
      refine c_region ?_
      refine s_val hS (by decide) rfl rfl (r_assign hS rfl) ?_; clear hS; intro a hS
      refine s_nil ?_
      refine k_seq ?_
      refine c_ret ?_
      exact k_res1 hS rfl (RV.tmp rfl) ⟨(congrArg (fun q => Ending.returned (.bool q)) (by first | exact above_dig' hk2 hk.2 | exact above_no16 hk.2)), hM.done trivial⟩

set_option maxRecDepth 100000 in
theorem times_ok (w0 : World) {v1 v2 : Value} {la lb A B : Nat} (hmk : Made Try.prog 26 22 (la + lb) (cU (la + lb) (fun _ => 0))) (hr1 : Rd w0 v1 la (fun i => U (dig A i))) (hA : A < 2 ^ (16 * la)) (hr2 : Rd w0 v2 lb (fun i => U (dig B i))) (hB : B < 2 ^ (16 * lb)) (hla : la ≤ 1000) (hlb : lb ≤ 1000) : NewRow Try.prog 26 #[v1, v2] w0 22 (la + lb) (fun i => U (dig (A * B) i)) := by
  refine ⟨by kernel_rfl, ?_⟩
  refine calls_sym Try.func26 rfl (by kernel_rfl) ?_
  intro a hS
  have hM : Mem w0 w0 [] := Mem.refl w0
  refine c_seq ?_
  refine c_region ?_
  refine s_val hS (by decide) rfl rfl (r_assign hS rfl) ?_; clear hS; intro a hS
  refine s_nil ?_
  refine k_seq ?_
  refine c_seq ?_
  refine c_region ?_
  refine s_val hS (by decide) rfl rfl (r_move hS rfl) ?_; clear hS; intro a hS
  refine s_val hS (by decide) rfl rfl (r_lenR hS rfl (hr1.keepGe hM trivial) Try.underlying26) ?_; clear hS; intro a hS
  refine s_val hS (by decide) rfl rfl (r_move hS rfl) ?_; clear hS; intro a hS
  refine s_val hS (by decide) rfl rfl (r_lenR hS rfl (hr2.keepGe hM trivial) Try.underlying26) ?_; clear hS; intro a hS
  refine s_val hS (by decide) rfl rfl (r_bv hS rfl rfl gN (b_addN _ _ _ (by omega))) ?_; clear hS; intro a hS
  refine s_make hS hM (by decide) rfl rfl hmk ?_; clear hS hM; intro a b14 w hb14 hS hM
  refine s_val hS (by decide) rfl rfl (r_assign hS rfl) ?_; clear hS; intro a hS
  refine s_nil ?_
  refine k_seq ?_
  refine c_seq ?_
  refine c_seq ?_
  refine c_region ?_
  refine s_val hS (by decide) rfl rfl (r_assign hS (show ev _ _ = some (N 0) from rfl)) ?_; clear hS; intro a hS
  refine s_nil ?_
  refine k_seq ?_
  refine c_block ?_
  refine c_loop (σ := Nat) (fun i a w => (i ≤ la) ∧ Slots a 62 (env [(0, v1), (1, v2), (5, .slice (some ⟨b14, 0, none⟩) (la + lb) (la + lb)), (6, N i)]) ∧ Mem w0 w ([⟨b14, 22, cU (la + lb) (dig (dP A B i))⟩])) (fun i => la - i) (0) ⟨by omega, hS.to _ ⟨rfl, rfl, rfl, rfl, trivial⟩, (by rw [dP_zero, dig_nul]; exact hM)⟩ ?_
  clear hS hM; rintro i a w ⟨hk, hS, hM⟩
  refine c_seq ?_
  refine c_seq ?_
  refine c_region ?_
  refine s_val hS (by decide) rfl rfl (r_move hS rfl) ?_; clear hS; intro a hS
  refine s_val hS (by decide) rfl rfl (r_move hS rfl) ?_; clear hS; intro a hS
  refine s_val hS (by decide) rfl rfl (r_lenR hS rfl (hr1.keepGe hM ⟨hb14, trivial⟩) Try.underlying26) ?_; clear hS; intro a hS
  refine s_val hS (by decide) rfl rfl (r_bv hS rfl rfl gN (b_lssN _ _ _)) ?_; clear hS; intro a hS
  refine s_nil ?_
  refine k_seq ?_
  refine c_cond hS rfl (fun hc => ?_) (fun hc => ?_)
  · have hk1 := of_decide_eq_true hc
    refine c_skip ?_
    refine k_seq ?_
    refine c_seq ?_
    refine c_block ?_
    refine c_seq ?_
    refine c_region ?_
    refine s_val hS (by decide) rfl rfl (r_assign hS (show ev _ _ = some (U 0#64) from rfl)) ?_; clear hS; intro a hS
    refine s_nil ?_
    refine k_seq ?_
    refine c_seq ?_
    refine c_seq ?_
    refine c_region ?_
    refine s_val hS (by decide) rfl rfl (r_assign hS (show ev _ _ = some (N 0) from rfl)) ?_; clear hS; intro a hS
    refine s_nil ?_
    refine k_seq ?_
    refine c_block ?_
    refine c_loop (σ := Nat) (fun k a w => (k ≤ lb) ∧ Slots a 62 (env [(0, v1), (1, v2), (5, .slice (some ⟨b14, 0, none⟩) (la + lb) (la + lb)), (6, N i), (7, U (dC (dP A B i) (A / 2 ^ (16 * i) % 2 ^ 16) B i k)), (8, N k)]) ∧ Mem w0 w ([⟨b14, 22, cU (la + lb) (dT (dP A B i) (A / 2 ^ (16 * i) % 2 ^ 16) B i k)⟩])) (fun k => lb - k) (0) ⟨by omega, hS.to _ ⟨rfl, rfl, rfl, rfl, congrArg some (dC_nul _ _ _ _), rfl, trivial⟩, (by rw [dT_zero]; exact hM)⟩ ?_
    clear hS hM; rintro k a w ⟨hk, hS, hM⟩
    refine c_seq ?_
    refine c_seq ?_
    refine c_region ?_
    refine s_val hS (by decide) rfl rfl (r_move hS rfl) ?_; clear hS; intro a hS
    refine s_val hS (by decide) rfl rfl (r_move hS rfl) ?_; clear hS; intro a hS
    refine s_val hS (by decide) rfl rfl (r_lenR hS rfl (hr2.keepGe hM ⟨hb14, trivial⟩) Try.underlying26) ?_; clear hS; intro a hS
    refine s_val hS (by decide) rfl rfl (r_bv hS rfl rfl gN (b_lssN _ _ _)) ?_; clear hS; intro a hS
    refine s_nil ?_
    refine k_seq ?_
    refine c_cond hS rfl (fun hc => ?_) (fun hc => ?_)
    · have hk2 := of_decide_eq_true hc
      refine c_skip ?_
      refine k_seq ?_
      refine c_seq ?_
      refine c_block ?_
      refine c_seq ?_
      refine c_plan 17 (fun w => Mem w0 w _) [(7, _), (5, _), (6, _), (8, _), (0, _), (1, _), (21, _), (22, _), (23, _), (24, _)] (by kernel_rfl) (by kernel_rfl) hS ⟨rfl, rfl, rfl, rfl, rfl, rfl, rfl, rfl, rfl, rfl, trivial⟩ (hM.drawn _) ?_; clear hS hM
      refine p_step rfl (fun a w hS hM => y_val rfl (r_move hS rfl)) ?_
      refine p_step rfl (fun a w hS hM => y_val rfl (r_move hS rfl)) ?_
      refine p_step rfl (fun a w hS hM => y_val rfl (r_move hS rfl)) ?_
      refine p_step rfl (fun a w hS hM => y_val rfl (r_move hS rfl)) ?_
      refine p_step rfl (fun a w hS hM => y_val rfl (r_bv hS rfl rfl gN (b_addN _ _ _ (by omega)))) ?_
      refine p_step rfl (fun a w hS hM => y_val rfl (r_indexS0 hS rfl rfl Try.underlying26 sz22 (by omega))) ?_
      refine p_step rfl (fun a w hS hM => y_val rfl (r_load hS hM rfl (j := 0) rfl Try.underlying22 rfl (cells_get (by omega)))) ?_
      refine p_step rfl (fun a w hS hM => y_val rfl (r_bv hS rfl rfl gU (b_addU _ _ _))) ?_
      refine p_step rfl (fun a w hS hM => y_val rfl (r_move hS rfl)) ?_
      refine p_step rfl (fun a w hS hM => y_val rfl (r_move hS rfl)) ?_
      refine p_step rfl (fun a w hS hM => y_val rfl (r_indexR hS rfl (hr1.keepGe hM ⟨hb14, trivial⟩) rfl Try.underlying26 sz22 (by omega))) ?_
      refine p_step rfl (fun a w hS hM => y_val rfl (r_loadR hS rfl (hr1.keepGe hM ⟨hb14, trivial⟩) (by omega) Try.underlying22 rfl)) ?_
      refine p_step rfl (fun a w hS hM => y_val rfl (r_move hS rfl)) ?_
      refine p_step rfl (fun a w hS hM => y_val rfl (r_move hS rfl)) ?_
      refine p_step rfl (fun a w hS hM => y_val rfl (r_indexR hS rfl (hr2.keepGe hM ⟨hb14, trivial⟩) rfl Try.underlying26 sz22 (by omega))) ?_
      refine p_step rfl (fun a w hS hM => y_val rfl (r_loadR hS rfl (hr2.keepGe hM ⟨hb14, trivial⟩) (by omega) Try.underlying22 rfl)) ?_
      refine p_step rfl (fun a w hS hM => y_val rfl (r_bv hS rfl rfl gU (b_mulU _ _ _))) ?_
      refine p_nil rfl ?_; intro a w hS hM
      refine s_val hS (by decide) rfl rfl (r_bv hS rfl rfl gU (b_addU _ _ _)) ?_; clear hS; intro a hS
      refine s_val hS (by decide) rfl rfl (r_assign hS rfl) ?_; clear hS; intro a hS
      refine s_nil ?_
      refine k_seq ?_
      refine c_seq ?_
      refine c_region ?_
      refine s_val hS (by decide) rfl rfl (r_move hS rfl) ?_; clear hS; intro a hS
      refine s_val hS (by decide) rfl rfl (r_move hS rfl) ?_; clear hS; intro a hS
      refine s_val hS (by decide) rfl rfl (r_move hS rfl) ?_; clear hS; intro a hS
      refine s_val hS (by decide) rfl rfl (r_bv hS rfl rfl gN (b_addN _ _ _ (by omega))) ?_; clear hS; intro a hS
      refine s_val hS (by decide) rfl rfl (r_move hS rfl) ?_; clear hS; intro a hS
      refine s_val hS (by decide) rfl rfl (r_bv hS rfl (show ev _ _ = some (U 65535#64) from rfl) gU (b_andU _ _ _)) ?_; clear hS; intro a hS
      refine s_val hS (by decide) rfl rfl (r_indexS0 hS rfl rfl Try.underlying26 sz22 (by omega)) ?_; clear hS; intro a hS
      refine s_storeU hS hM rfl rfl (j := 0) rfl sz22 (by omega) ?_; clear hS hM; intro a w hS hM
      refine s_nil ?_
      refine k_seq ?_
      refine c_region ?_
      refine s_val hS (by decide) rfl rfl (r_move hS rfl) ?_; clear hS; intro a hS
      refine s_val hS (by decide) rfl rfl (r_bv hS rfl (show ev _ _ = some (.int .u64 ((16 : Nat) : Int)) from rfl) gU (b_shrU _ _ _ 16)) ?_; clear hS; intro a hS
      refine s_val hS (by decide) rfl rfl (r_assign hS rfl) ?_; clear hS; intro a hS
      refine s_nil ?_
      refine k_in ?_
      refine k_seq ?_
      refine c_region ?_
      refine s_val hS (by decide) rfl rfl (r_move hS rfl) ?_; clear hS; intro a hS
      refine s_val hS (by decide) rfl rfl (r_bv hS rfl (show ev _ _ = some (N 1) from rfl) gN (b_addN _ _ _ (by omega))) ?_; clear hS; intro a hS
      refine s_val hS (by decide) rfl rfl (r_assign hS rfl) ?_; clear hS; intro a hS
      refine s_nil ?_
      refine k_then ?_
      refine ⟨k + 1, by omega, by omega, hS.to _ ⟨rfl, rfl, rfl, rfl, congrArg (fun q => some (U q)) (by rw [dT_at, ← dC_step]; rfl), rfl, trivial⟩, (hM.congr (by rw [dT_at, ← dT_step]; rfl))⟩
    · obtain rfl : k = lb := by have := of_decide_eq_false hc; omega
      refine c_exit ?_
      refine k_thenx ?_
      refine k_thenx ?_
      refine k_inx ?_
      refine k_seq ?_
      refine c_region ?_
      refine s_val hS (by decide) rfl rfl (r_move hS rfl) ?_; clear hS; intro a hS
      refine s_val hS (by decide) rfl rfl (r_move hS rfl) ?_; clear hS; intro a hS
      refine s_val hS (by decide) rfl rfl (r_move hS rfl) ?_; clear hS; intro a hS
      refine s_val hS (by decide) rfl rfl (r_lenR hS rfl (hr2.keepGe hM ⟨hb14, trivial⟩) Try.underlying26) ?_; clear hS; intro a hS
      refine s_val hS (by decide) rfl rfl (r_bv hS rfl rfl gN (b_addN _ _ _ (by omega))) ?_; clear hS; intro a hS
      refine s_val hS (by decide) rfl rfl (r_move hS rfl) ?_; clear hS; intro a hS
      refine s_val hS (by decide) rfl rfl (r_indexS0 hS rfl rfl Try.underlying26 sz22 (by omega)) ?_; clear hS; intro a hS
      refine s_storeU hS hM rfl rfl (j := 0) rfl sz22 (by omega) ?_; clear hS hM; intro a w hS hM
      rw [dP_next hB] at hM
      refine s_nil ?_
      refine k_in ?_
      refine k_seq ?_
      refine c_region ?_
      refine s_val hS (by decide) rfl rfl (r_move hS rfl) ?_; clear hS; intro a hS
      refine s_val hS (by decide) rfl rfl (r_bv hS rfl (show ev _ _ = some (N 1) from rfl) gN (b_addN _ _ _ (by omega))) ?_; clear hS; intro a hS
      refine s_val hS (by decide) rfl rfl (r_assign hS rfl) ?_; clear hS; intro a hS
      refine s_nil ?_
      refine k_then ?_
      refine ⟨i + 1, by omega, by omega, hS.to _ ⟨rfl, rfl, rfl, rfl, trivial⟩, hM⟩
  · obtain rfl : i = la := (by have := of_decide_eq_false hc; omega); rw [dP_all hA] at hM
    refine c_exit ?_
    refine k_thenx ?_
    refine k_thenx ?_
    refine k_inx ?_
    refine k_seq ?_
    refine c_seq ?_
    refine c_region ?_
    refine s_val hS (by decide) rfl rfl (r_move hS rfl) ?_; clear hS; intro a hS
    refine s_val hS (by decide) rfl rfl (r_assign hS rfl) ?_; clear hS; intro a hS
    refine s_nil ?_
    refine k_seq ?_
    refine c_ret ?_
    exact k_res1 hS rfl (RV.tmp rfl) (newrow_end hb14 hM)

set_option maxRecDepth 100000 in
theorem rroot2_ok (p : BitVec 64) (w0 : World) : Pure Try.prog 23 #[U p, N 2] w0 (U (sqU p)) := by
  refine ⟨by kernel_rfl, ?_⟩
  refine calls_sym Try.func23 rfl (by kernel_rfl) ?_
  intro a hS
  have hM : Mem w0 w0 [] := Mem.refl w0
  refine c_seq ?_
  refine c_region ?_
  refine s_val hS (by decide) rfl rfl (r_assign hS (show ev _ _ = some (U 0#64) from rfl)) ?_; clear hS; intro a hS
  refine s_nil ?_
  refine k_seq ?_
  refine c_seq ?_
  refine c_seq ?_
  refine c_region ?_
  refine s_val hS (by decide) rfl rfl (r_move hS rfl) ?_; clear hS; intro a hS
  refine s_val hS (by decide) rfl rfl (r_bv hS rfl (show ev _ _ = some (U 4294967296#64) from rfl) gU (b_geqU _ _ _)) ?_; clear hS; intro a hS
  refine s_nil ?_
  refine k_seq ?_
  refine c_cond hS rfl (fun hc => ?_) (fun hc => ?_)
  · have h1 : ¬ p.toNat < 4294967296 := Nat.not_lt.2 (of_decide_eq_true hc)
    refine c_seq ?_
    refine c_region ?_
    refine s_val hS (by decide) rfl rfl (r_assign hS (show ev _ _ = some (U 0#64) from rfl)) ?_; clear hS; intro a hS
    refine s_nil ?_
    refine k_seq ?_
    refine c_ret ?_
    refine k_thenr ?_
    exact k_res1 hS rfl (RV.tmp rfl) ⟨(congrArg (fun q => Ending.returned (U q)) (by first | exact (by rw [sqU_no h1]) | exact rsq_end h1)), hM.done trivial⟩
  · have h1 : p.toNat < 4294967296 := Nat.lt_of_not_le (of_decide_eq_false hc)
    refine c_skip ?_
    refine k_seq ?_
    refine c_seq ?_
    refine c_region ?_
    refine s_val hS (by decide) rfl rfl (r_move hS rfl) ?_; clear hS; intro a hS
    refine s_val hS (by decide) rfl rfl (r_bv hS (show ev _ _ = some (N 4) from rfl) rfl gN (b_mulN _ _ _ (by omega))) ?_; clear hS; intro a hS
    refine s_make hS hM (by decide) rfl rfl made26_8 ?_; clear hS hM; intro a b13 w hb13 hS hM
    refine s_val hS (by decide) rfl rfl (r_move hS rfl) ?_; clear hS; intro a hS
    refine s_val hS (by decide) rfl rfl (r_bv hS rfl (show ev _ _ = some (U 65535#64) from rfl) gU (b_andU _ _ _)) ?_; clear hS; intro a hS
    refine s_val hS (by decide) rfl rfl (r_move hS rfl) ?_; clear hS; intro a hS
    refine s_val hS (by decide) rfl rfl (r_bv hS rfl (show ev _ _ = some (.int .u64 ((16 : Nat) : Int)) from rfl) gU (b_shrU _ _ _ 16)) ?_; clear hS; intro a hS
    refine s_buildSlice hS hM (by decide) (vs := [(0, U _), (1, U _)]) rfl (row26_2 _ _) ?_; clear hS hM; intro a b18 w hb18 hS hM
    refine s_append hS [_] (Lx := [_]) hM (by decide) rfl rfl elem26 (own_row hb13) ((row2 hM).src Try.underlying26 (fun i _ => one2 rfl rfl i)) (by simp only [cells_len]; decide) ?_; clear hS hM; intro a w v Lx ho hS hM
    replace ho := ho.congr (goal8 h1)
    replace hM : Mem w0 w ([] ++ Lx) := hM.drop hb18
    refine s_val hS (by decide) rfl rfl (r_assign hS rfl) ?_; clear hS; intro a hS
    refine s_nil ?_
    refine k_seq ?_
    refine c_seq ?_
    refine c_region ?_
    refine s_make hS hM (by decide) (show ev _ _ = some (N 5) from rfl) (show ev _ _ = some (N 5) from rfl) made26_5 ?_; clear hS hM; intro a b20 w hb20 hS hM
    refine s_val hS (by decide) rfl rfl (r_assign hS rfl) ?_; clear hS; intro a hS
    refine s_nil ?_
    refine k_seq ?_
    refine c_seq ?_
    refine c_seq ?_
    refine c_region ?_
    refine s_val hS (by decide) rfl rfl (r_assign hS (show ev _ _ = some (N 79) from rfl)) ?_; clear hS; intro a hS
    refine s_nil ?_
    refine k_seq ?_
    refine c_block ?_
    refine c_loop (σ := Nat) (fun j a w => (j ≤ 80) ∧ Slots a 82 (env [(0, U p), (1, N 2), (5, v), (6, .slice (some ⟨b20, 0, none⟩) 5 5), (7, .int .i64 (79 - (j : Int)))]) ∧ Mem w0 w ([⟨b20, 22, cU 5 (dig (sr 2 (sqG p.toNat) 80 j))⟩] ++ Lx)) (fun j => 80 - j) (0) ⟨by omega, hS.to _ ⟨rfl, rfl, rfl, rfl, rfl, trivial⟩, (by rw [show sr 2 (sqG p.toNat) 80 0 = 0 by unfold sr; rfl, dig_nul]; exact hM)⟩ ?_
    clear hS hM; rintro j a w ⟨hk, hS, hM⟩
    refine c_seq ?_
    refine c_seq ?_
    refine c_region ?_
    refine s_val hS (by decide) rfl rfl (r_move hS rfl) ?_; clear hS; intro a hS
    refine s_val hS (by decide) rfl rfl (r_bv hS rfl (show ev _ _ = some (.int .i64 (0)) from rfl) gZ (b_geqZ _ _ _)) ?_; clear hS; intro a hS
    refine s_nil ?_
    refine k_seq ?_
    refine c_cond hS rfl (fun hc => ?_) (fun hc => ?_)
    · have hk1 := of_decide_eq_true hc; have hk2 : j ≤ 79 := (by omega); rw [show (79 : Int) - (j : Int) = ((79 - j : Nat) : Int) by omega] at hS
      refine c_skip ?_
      refine k_seq ?_
      refine c_seq ?_
      refine c_block ?_
      refine c_seq ?_
      refine c_region ?_
      refine s_val hS (by decide) rfl rfl (r_move hS rfl) ?_; clear hS; intro a hS
      refine s_val hS (by decide) rfl rfl (r_move hS rfl) ?_; clear hS; intro a hS
      refine s_val hS (by decide) rfl rfl (r_bv hS rfl (show ev _ _ = some (N 16) from rfl) gN (b_quoN _ _ _ (by omega) (by omega))) ?_; clear hS; intro a hS
      refine s_val hS (by decide) rfl rfl (r_move hS rfl) ?_; clear hS; intro a hS
      refine s_val hS (by decide) rfl rfl (r_move hS rfl) ?_; clear hS; intro a hS
      refine s_val hS (by decide) rfl rfl (r_bv hS rfl (show ev _ _ = some (N 16) from rfl) gN (b_quoN _ _ _ (by omega) (by omega))) ?_; clear hS; intro a hS
      refine s_val hS (by decide) rfl rfl (r_indexS0 hS rfl rfl Try.underlying26 sz22 (by omega)) ?_; clear hS; intro a hS
      refine s_val hS (by decide) rfl rfl (r_load hS hM rfl (j := 0) rfl Try.underlying22 rfl (cells_get (by omega))) ?_; clear hS; intro a hS
      refine s_val hS (by decide) rfl rfl (r_move hS rfl) ?_; clear hS; intro a hS
      refine s_val hS (by decide) rfl rfl (r_bv hS rfl (show ev _ _ = some (N 16) from rfl) gN (b_remN _ _ _ (by omega))) ?_; clear hS; intro a hS
      refine s_val hS (by decide) rfl rfl (r_conv hS rfl (by kernel_rfl) Try.underlying43 (cv_NU _)) ?_; clear hS; intro a hS
      refine s_val hS (by decide) rfl rfl (r_bv hS (show ev _ _ = some (U 1#64) from rfl) rfl gU (b_shlU _ _ _ (BitVec.toNat _))) ?_; clear hS; intro a hS
      refine s_val hS (by decide) rfl rfl (r_bv hS rfl rfl gU (b_addU _ _ _)) ?_; clear hS; intro a hS
      refine s_val hS (by decide) rfl rfl (r_indexS0 hS rfl rfl Try.underlying26 sz22 (by omega)) ?_; clear hS; intro a hS
      refine s_storeU hS hM rfl rfl (j := 0) rfl sz22 (by omega) ?_; clear hS hM; intro a w hS hM
      rw [ofNat_toNat_lt (show (79 - j) % 16 < 18446744073709551616 by omega)] at hM
      rw [bit_add' (sr80_bit 2 (sqG p.toNat) hk2) rfl] at hM
      have hx := sr80_lt 2 (sqG p.toNat) hk2
      refine s_nil ?_
      refine k_seq ?_
      refine c_seq ?_
      refine c_region ?_
      refine s_val hS (by decide) rfl rfl (r_move hS rfl) ?_; clear hS; intro a hS
      refine s_val hS (by decide) rfl rfl (r_move hS rfl) ?_; clear hS; intro a hS
      refine s_newrow hS hM (by decide) rfl (times_ok _ made26_10 (rd_row hM (j := 0) rfl) (lt_16 hx (by decide)) (rd_row hM (j := 0) rfl) (lt_16 hx (by decide)) (by decide) (by decide)) ?_; clear hS hM; intro a w b41 hb41 hS hM
      refine s_val hS (by decide) rfl rfl (r_assign hS rfl) ?_; clear hS; intro a hS
      refine s_nil ?_
      refine k_seq ?_
      refine c_seq ?_
      refine c_seq ?_
      refine c_region ?_
      refine s_val hS (by decide) rfl rfl (r_move hS rfl) ?_; clear hS; intro a hS
      refine s_val hS (by decide) rfl rfl (r_bv hS rfl (show ev _ _ = some (N 3) from rfl) gN (b_eqlN _ _ _)) ?_; clear hS; intro a hS
      refine s_nil ?_
      refine k_seq ?_
      refine c_false hS rfl (rfl) ?_
      refine c_skip ?_
      refine k_seq ?_
      refine c_seq ?_
      refine c_region ?_
      refine s_val hS (by decide) rfl rfl (r_move hS rfl) ?_; clear hS; intro a hS
      refine s_val hS (by decide) rfl rfl (r_move hS rfl) ?_; clear hS; intro a hS
      refine s_pure hS hM (by decide) rfl (above_ok _ (rd_row hM (j := 0) rfl) (sq_lt hx (by decide)) (own_rd (L := [_, _]) ho hM) (lt_16 (sqG_160 h1) (by decide)) (by decide) (by decide)) ?_; clear hS hM; intro a w hS hM
      refine s_nil ?_
      refine k_seq ?_
      refine c_cond hS rfl (fun hc => ?_) (fun hc => ?_)
      · have h3 : ¬ ((sr 2 (sqG p.toNat) 80 j) + 2 ^ (79 - j)) ^ 2 ≤ sqG p.toNat := by simpa [Nat.pow_two] using hc
        refine c_region ?_
        refine s_val hS (by decide) rfl rfl (r_move hS rfl) ?_; clear hS; intro a hS
        refine s_val hS (by decide) rfl rfl (r_move hS rfl) ?_; clear hS; intro a hS
        refine s_val hS (by decide) rfl rfl (r_bv hS rfl (show ev _ _ = some (N 16) from rfl) gN (b_quoN _ _ _ (by omega) (by omega))) ?_; clear hS; intro a hS
        refine s_val hS (by decide) rfl rfl (r_move hS rfl) ?_; clear hS; intro a hS
        refine s_val hS (by decide) rfl rfl (r_move hS rfl) ?_; clear hS; intro a hS
        refine s_val hS (by decide) rfl rfl (r_bv hS rfl (show ev _ _ = some (N 16) from rfl) gN (b_quoN _ _ _ (by omega) (by omega))) ?_; clear hS; intro a hS
        refine s_val hS (by decide) rfl rfl (r_indexS0 hS rfl rfl Try.underlying26 sz22 (by omega)) ?_; clear hS; intro a hS
        refine s_val hS (by decide) rfl rfl (r_load hS hM rfl (j := 1) rfl Try.underlying22 rfl (cells_get (by omega))) ?_; clear hS; intro a hS
        refine s_val hS (by decide) rfl rfl (r_move hS rfl) ?_; clear hS; intro a hS
        refine s_val hS (by decide) rfl rfl (r_bv hS rfl (show ev _ _ = some (N 16) from rfl) gN (b_remN _ _ _ (by omega))) ?_; clear hS; intro a hS
        refine s_val hS (by decide) rfl rfl (r_conv hS rfl (by kernel_rfl) Try.underlying43 (cv_NU _)) ?_; clear hS; intro a hS
        refine s_val hS (by decide) rfl rfl (r_bv hS (show ev _ _ = some (U 1#64) from rfl) rfl gU (b_shlU _ _ _ (BitVec.toNat _))) ?_; clear hS; intro a hS
        refine s_val hS (by decide) rfl rfl (r_bv hS rfl rfl gU (b_subU _ _ _)) ?_; clear hS; intro a hS
        refine s_val hS (by decide) rfl rfl (r_indexS0 hS rfl rfl Try.underlying26 sz22 (by omega)) ?_; clear hS; intro a hS
        refine s_storeU hS hM rfl rfl (j := 1) rfl sz22 (by omega) ?_; clear hS hM; intro a w hS hM
        rw [ofNat_toNat_lt (show (79 - j) % 16 < 18446744073709551616 by omega)] at hM
        rw [bit_sub' (sr80_bit 2 (sqG p.toNat) hk2) rfl] at hM
        refine s_nil ?_
        refine k_in ?_
        refine k_seq ?_
        refine c_region ?_
        refine s_val hS (by decide) rfl rfl (r_move hS rfl) ?_; clear hS; intro a hS
        refine s_val hS (by decide) rfl rfl (r_bv hS rfl (show ev _ _ = some (.int .i64 (1)) from rfl) gZ (b_subZ _ _ _ (by omega))) ?_; clear hS; intro a hS
        refine s_val hS (by decide) rfl rfl (r_assign hS rfl) ?_; clear hS; intro a hS
        refine s_nil ?_
        refine k_then ?_
        refine ⟨j + 1, by omega, by omega, hS.to _ ⟨rfl, rfl, rfl, rfl, congrArg (fun q => some (Value.int .i64 q)) (by omega), trivial⟩, (by first | exact (hM.drop hb41).congr (by rw [sr80_yes h3]; try rfl) | exact (hM.drop hb41).congr (by rw [sr80_no h3]; try rfl))⟩
      · have h3 : ((sr 2 (sqG p.toNat) 80 j) + 2 ^ (79 - j)) ^ 2 ≤ sqG p.toNat := by simpa [Nat.pow_two] using hc
        refine c_skip ?_
        refine k_in ?_
        refine k_seq ?_
        refine c_region ?_
        refine s_val hS (by decide) rfl rfl (r_move hS rfl) ?_; clear hS; intro a hS
        refine s_val hS (by decide) rfl rfl (r_bv hS rfl (show ev _ _ = some (.int .i64 (1)) from rfl) gZ (b_subZ _ _ _ (by omega))) ?_; clear hS; intro a hS
        refine s_val hS (by decide) rfl rfl (r_assign hS rfl) ?_; clear hS; intro a hS
        refine s_nil ?_
        refine k_then ?_
        refine ⟨j + 1, by omega, by omega, hS.to _ ⟨rfl, rfl, rfl, rfl, congrArg (fun q => some (Value.int .i64 q)) (by omega), trivial⟩, (by first | exact (hM.drop hb41).congr (by rw [sr80_yes h3]; try rfl) | exact (hM.drop hb41).congr (by rw [sr80_no h3]; try rfl))⟩
    · obtain rfl : j = 80 := by have := of_decide_eq_false hc; omega
      refine c_exit ?_
      refine k_thenx ?_
      refine k_thenx ?_
      refine k_inx ?_
      refine k_seq ?_
      refine c_seq ?_
      refine c_plan 19 (fun w => Mem w0 w _) [(6, _)] (by kernel_rfl) (by kernel_rfl) hS ⟨rfl, trivial⟩ (hM.drawn _) ?_; clear hS hM
      refine p_step rfl (fun a w hS hM => y_val rfl (r_move hS rfl)) ?_
      refine p_step rfl (fun a w hS hM => y_val rfl (r_indexS0 hS rfl (show ev _ _ = some (.int .i64 ((0 : Nat) : Int)) from rfl) Try.underlying26 sz22 (by decide))) ?_
      refine p_step rfl (fun a w hS hM => y_val rfl (r_load hS hM rfl (j := 0) rfl Try.underlying22 rfl (cells_get (by omega)))) ?_
      refine p_step rfl (fun a w hS hM => y_val rfl (r_move hS rfl)) ?_
      refine p_step rfl (fun a w hS hM => y_val rfl (r_indexS0 hS rfl (show ev _ _ = some (.int .i64 ((1 : Nat) : Int)) from rfl) Try.underlying26 sz22 (by decide))) ?_
      refine p_step rfl (fun a w hS hM => y_val rfl (r_load hS hM rfl (j := 0) rfl Try.underlying22 rfl (cells_get (by omega)))) ?_
      refine p_step rfl (fun a w hS hM => y_val rfl (r_bv hS rfl (show ev _ _ = some (.int .u64 ((16 : Nat) : Int)) from rfl) gU (b_shlU _ _ _ 16))) ?_
      refine p_step rfl (fun a w hS hM => y_val rfl (r_bv hS rfl rfl gU (b_addU _ _ _))) ?_
      refine p_step rfl (fun a w hS hM => y_val rfl (r_move hS rfl)) ?_
      refine p_step rfl (fun a w hS hM => y_val rfl (r_indexS0 hS rfl (show ev _ _ = some (.int .i64 ((2 : Nat) : Int)) from rfl) Try.underlying26 sz22 (by decide))) ?_
      refine p_step rfl (fun a w hS hM => y_val rfl (r_load hS hM rfl (j := 0) rfl Try.underlying22 rfl (cells_get (by omega)))) ?_
      refine p_step rfl (fun a w hS hM => y_val rfl (r_bv hS rfl (show ev _ _ = some (.int .u64 ((32 : Nat) : Int)) from rfl) gU (b_shlU _ _ _ 32))) ?_
      refine p_step rfl (fun a w hS hM => y_val rfl (r_bv hS rfl rfl gU (b_addU _ _ _))) ?_
      refine p_step rfl (fun a w hS hM => y_val rfl (r_move hS rfl)) ?_
      refine p_step rfl (fun a w hS hM => y_val rfl (r_indexS0 hS rfl (show ev _ _ = some (.int .i64 ((3 : Nat) : Int)) from rfl) Try.underlying26 sz22 (by decide))) ?_
      refine p_step rfl (fun a w hS hM => y_val rfl (r_load hS hM rfl (j := 0) rfl Try.underlying22 rfl (cells_get (by omega)))) ?_
      refine p_step rfl (fun a w hS hM => y_val rfl (r_bv hS rfl (show ev _ _ = some (.int .u64 ((48 : Nat) : Int)) from rfl) gU (b_shlU _ _ _ 48))) ?_
      refine p_step rfl (fun a w hS hM => y_val rfl (r_bv hS rfl rfl gU (b_addU _ _ _))) ?_
      refine p_step rfl (fun a w hS hM => y_val rfl (r_assign hS rfl)) ?_
      refine p_nil rfl ?_; intro a w hS hM
      refine s_nil ?_
      refine k_seq ?_
      refine c_ret ?_
      exact k_res1 hS rfl (RV.tmp rfl) ⟨(congrArg (fun q => Ending.returned (U q)) (by first | exact (by rw [sqU_no h1]) | exact rsq_end h1)), hM.done ⟨hb20, allGe_of ho.ge⟩⟩

set_option maxRecDepth 100000 in
theorem rroot3_ok (p : BitVec 64) (w0 : World) : Pure Try.prog 23 #[U p, N 3] w0 (U (cuU p)) := by
  refine ⟨by kernel_rfl, ?_⟩
  refine calls_sym Try.func23 rfl (by kernel_rfl) ?_
  intro a hS
  have hM : Mem w0 w0 [] := Mem.refl w0
  refine c_seq ?_
  refine c_region ?_
  refine s_val hS (by decide) rfl rfl (r_assign hS (show ev _ _ = some (U 0#64) from rfl)) ?_; clear hS; intro a hS
  refine s_nil ?_
  refine k_seq ?_
  refine c_seq ?_
  refine c_seq ?_
  refine c_region ?_
  refine s_val hS (by decide) rfl rfl (r_move hS rfl) ?_; clear hS; intro a hS
  refine s_val hS (by decide) rfl rfl (r_bv hS rfl (show ev _ _ = some (U 4294967296#64) from rfl) gU (b_geqU _ _ _)) ?_; clear hS; intro a hS
  refine s_nil ?_
  refine k_seq ?_
  refine c_cond hS rfl (fun hc => ?_) (fun hc => ?_)
  · have h1 : ¬ p.toNat < 4294967296 := Nat.not_lt.2 (of_decide_eq_true hc)
    refine c_seq ?_
    refine c_region ?_
    refine s_val hS (by decide) rfl rfl (r_assign hS (show ev _ _ = some (U 0#64) from rfl)) ?_; clear hS; intro a hS
    refine s_nil ?_
    refine k_seq ?_
    refine c_ret ?_
    refine k_thenr ?_
    exact k_res1 hS rfl (RV.tmp rfl) ⟨(congrArg (fun q => Ending.returned (U q)) (by first | exact (by rw [cuU_no h1]) | exact rcu_end h1)), hM.done trivial⟩
  · have h1 : p.toNat < 4294967296 := Nat.lt_of_not_le (of_decide_eq_false hc)
    refine c_skip ?_
    refine k_seq ?_
    refine c_seq ?_
    refine c_region ?_
    refine s_val hS (by decide) rfl rfl (r_move hS rfl) ?_; clear hS; intro a hS
    refine s_val hS (by decide) rfl rfl (r_bv hS (show ev _ _ = some (N 4) from rfl) rfl gN (b_mulN _ _ _ (by omega))) ?_; clear hS; intro a hS
    refine s_make hS hM (by decide) rfl rfl made26_12 ?_; clear hS hM; intro a b13 w hb13 hS hM
    refine s_val hS (by decide) rfl rfl (r_move hS rfl) ?_; clear hS; intro a hS
    refine s_val hS (by decide) rfl rfl (r_bv hS rfl (show ev _ _ = some (U 65535#64) from rfl) gU (b_andU _ _ _)) ?_; clear hS; intro a hS
    refine s_val hS (by decide) rfl rfl (r_move hS rfl) ?_; clear hS; intro a hS
    refine s_val hS (by decide) rfl rfl (r_bv hS rfl (show ev _ _ = some (.int .u64 ((16 : Nat) : Int)) from rfl) gU (b_shrU _ _ _ 16)) ?_; clear hS; intro a hS
    refine s_buildSlice hS hM (by decide) (vs := [(0, U _), (1, U _)]) rfl (row26_2 _ _) ?_; clear hS hM; intro a b18 w hb18 hS hM
    refine s_append hS [_] (Lx := [_]) hM (by decide) rfl rfl elem26 (own_row hb13) ((row2 hM).src Try.underlying26 (fun i _ => one2 rfl rfl i)) (by simp only [cells_len]; decide) ?_; clear hS hM; intro a w v Lx ho hS hM
    replace ho := ho.congr (goal12 h1)
    replace hM : Mem w0 w ([] ++ Lx) := hM.drop hb18
    refine s_val hS (by decide) rfl rfl (r_assign hS rfl) ?_; clear hS; intro a hS
    refine s_nil ?_
    refine k_seq ?_
    refine c_seq ?_
    refine c_region ?_
    refine s_make hS hM (by decide) (show ev _ _ = some (N 5) from rfl) (show ev _ _ = some (N 5) from rfl) made26_5 ?_; clear hS hM; intro a b20 w hb20 hS hM
    refine s_val hS (by decide) rfl rfl (r_assign hS rfl) ?_; clear hS; intro a hS
    refine s_nil ?_
    refine k_seq ?_
    refine c_seq ?_
    refine c_seq ?_
    refine c_region ?_
    refine s_val hS (by decide) rfl rfl (r_assign hS (show ev _ _ = some (N 79) from rfl)) ?_; clear hS; intro a hS
    refine s_nil ?_
    refine k_seq ?_
    refine c_block ?_
    refine c_loop (σ := Nat) (fun j a w => (j ≤ 80) ∧ Slots a 82 (env [(0, U p), (1, N 3), (5, v), (6, .slice (some ⟨b20, 0, none⟩) 5 5), (7, .int .i64 (79 - (j : Int)))]) ∧ Mem w0 w ([⟨b20, 22, cU 5 (dig (sr 3 (cuG p.toNat) 80 j))⟩] ++ Lx)) (fun j => 80 - j) (0) ⟨by omega, hS.to _ ⟨rfl, rfl, rfl, rfl, rfl, trivial⟩, (by rw [show sr 3 (cuG p.toNat) 80 0 = 0 by unfold sr; rfl, dig_nul]; exact hM)⟩ ?_
    clear hS hM; rintro j a w ⟨hk, hS, hM⟩
    refine c_seq ?_
    refine c_seq ?_
    refine c_region ?_
    refine s_val hS (by decide) rfl rfl (r_move hS rfl) ?_; clear hS; intro a hS
    refine s_val hS (by decide) rfl rfl (r_bv hS rfl (show ev _ _ = some (.int .i64 (0)) from rfl) gZ (b_geqZ _ _ _)) ?_; clear hS; intro a hS
    refine s_nil ?_
    refine k_seq ?_
    refine c_cond hS rfl (fun hc => ?_) (fun hc => ?_)
    · have hk1 := of_decide_eq_true hc; have hk2 : j ≤ 79 := (by omega); rw [show (79 : Int) - (j : Int) = ((79 - j : Nat) : Int) by omega] at hS
      refine c_skip ?_
      refine k_seq ?_
      refine c_seq ?_
      refine c_block ?_
      refine c_seq ?_
      refine c_region ?_
      refine s_val hS (by decide) rfl rfl (r_move hS rfl) ?_; clear hS; intro a hS
      refine s_val hS (by decide) rfl rfl (r_move hS rfl) ?_; clear hS; intro a hS
      refine s_val hS (by decide) rfl rfl (r_bv hS rfl (show ev _ _ = some (N 16) from rfl) gN (b_quoN _ _ _ (by omega) (by omega))) ?_; clear hS; intro a hS
      refine s_val hS (by decide) rfl rfl (r_move hS rfl) ?_; clear hS; intro a hS
      refine s_val hS (by decide) rfl rfl (r_move hS rfl) ?_; clear hS; intro a hS
      refine s_val hS (by decide) rfl rfl (r_bv hS rfl (show ev _ _ = some (N 16) from rfl) gN (b_quoN _ _ _ (by omega) (by omega))) ?_; clear hS; intro a hS
      refine s_val hS (by decide) rfl rfl (r_indexS0 hS rfl rfl Try.underlying26 sz22 (by omega)) ?_; clear hS; intro a hS
      refine s_val hS (by decide) rfl rfl (r_load hS hM rfl (j := 0) rfl Try.underlying22 rfl (cells_get (by omega))) ?_; clear hS; intro a hS
      refine s_val hS (by decide) rfl rfl (r_move hS rfl) ?_; clear hS; intro a hS
      refine s_val hS (by decide) rfl rfl (r_bv hS rfl (show ev _ _ = some (N 16) from rfl) gN (b_remN _ _ _ (by omega))) ?_; clear hS; intro a hS
      refine s_val hS (by decide) rfl rfl (r_conv hS rfl (by kernel_rfl) Try.underlying43 (cv_NU _)) ?_; clear hS; intro a hS
      refine s_val hS (by decide) rfl rfl (r_bv hS (show ev _ _ = some (U 1#64) from rfl) rfl gU (b_shlU _ _ _ (BitVec.toNat _))) ?_; clear hS; intro a hS
      refine s_val hS (by decide) rfl rfl (r_bv hS rfl rfl gU (b_addU _ _ _)) ?_; clear hS; intro a hS
      refine s_val hS (by decide) rfl rfl (r_indexS0 hS rfl rfl Try.underlying26 sz22 (by omega)) ?_; clear hS; intro a hS
      refine s_storeU hS hM rfl rfl (j := 0) rfl sz22 (by omega) ?_; clear hS hM; intro a w hS hM
      rw [ofNat_toNat_lt (show (79 - j) % 16 < 18446744073709551616 by omega)] at hM
      rw [bit_add' (sr80_bit 3 (cuG p.toNat) hk2) rfl] at hM
      have hx := sr80_lt 3 (cuG p.toNat) hk2
      refine s_nil ?_
      refine k_seq ?_
      refine c_seq ?_
      refine c_region ?_
      refine s_val hS (by decide) rfl rfl (r_move hS rfl) ?_; clear hS; intro a hS
      refine s_val hS (by decide) rfl rfl (r_move hS rfl) ?_; clear hS; intro a hS
      refine s_newrow hS hM (by decide) rfl (times_ok _ made26_10 (rd_row hM (j := 0) rfl) (lt_16 hx (by decide)) (rd_row hM (j := 0) rfl) (lt_16 hx (by decide)) (by decide) (by decide)) ?_; clear hS hM; intro a w b41 hb41 hS hM
      refine s_val hS (by decide) rfl rfl (r_assign hS rfl) ?_; clear hS; intro a hS
      refine s_nil ?_
      refine k_seq ?_
      refine c_seq ?_
      refine c_seq ?_
      refine c_region ?_
      refine s_val hS (by decide) rfl rfl (r_move hS rfl) ?_; clear hS; intro a hS
      refine s_val hS (by decide) rfl rfl (r_bv hS rfl (show ev _ _ = some (N 3) from rfl) gN (b_eqlN _ _ _)) ?_; clear hS; intro a hS
      refine s_nil ?_
      refine k_seq ?_
      refine c_true hS rfl (rfl) ?_
      refine c_region ?_
      refine s_val hS (by decide) rfl rfl (r_move hS rfl) ?_; clear hS; intro a hS
      refine s_val hS (by decide) rfl rfl (r_move hS rfl) ?_; clear hS; intro a hS
      refine s_newrow hS hM (by decide) rfl (times_ok _ made26_15 (rd_row hM (j := 0) rfl) (sq_lt hx (by decide)) (rd_row hM (j := 1) rfl) (lt_16 hx (by decide)) (by decide) (by decide)) ?_; clear hS hM; intro a w b46 hb46 hS hM
      refine s_val hS (by decide) rfl rfl (r_assign hS rfl) ?_; clear hS; intro a hS
      refine s_nil ?_
      refine k_seq ?_
      refine c_seq ?_
      refine c_region ?_
      refine s_val hS (by decide) rfl rfl (r_move hS rfl) ?_; clear hS; intro a hS
      refine s_val hS (by decide) rfl rfl (r_move hS rfl) ?_; clear hS; intro a hS
      refine s_pure hS hM (by decide) rfl (above_ok _ (rd_row hM (j := 0) rfl) (mul_lt (sq_lt hx (Nat.le_refl _)) hx (by decide)) (own_rd (L := [_, _, _]) ho hM) (cuG_224 h1) (by decide) (by decide)) ?_; clear hS hM; intro a w hS hM
      refine s_nil ?_
      refine k_seq ?_
      refine c_cond hS rfl (fun hc => ?_) (fun hc => ?_)
      · have h3 : ¬ ((sr 3 (cuG p.toNat) 80 j) + 2 ^ (79 - j)) ^ 3 ≤ cuG p.toNat := by simpa [cube_of] using hc
        refine c_region ?_
        refine s_val hS (by decide) rfl rfl (r_move hS rfl) ?_; clear hS; intro a hS
        refine s_val hS (by decide) rfl rfl (r_move hS rfl) ?_; clear hS; intro a hS
        refine s_val hS (by decide) rfl rfl (r_bv hS rfl (show ev _ _ = some (N 16) from rfl) gN (b_quoN _ _ _ (by omega) (by omega))) ?_; clear hS; intro a hS
        refine s_val hS (by decide) rfl rfl (r_move hS rfl) ?_; clear hS; intro a hS
        refine s_val hS (by decide) rfl rfl (r_move hS rfl) ?_; clear hS; intro a hS
        refine s_val hS (by decide) rfl rfl (r_bv hS rfl (show ev _ _ = some (N 16) from rfl) gN (b_quoN _ _ _ (by omega) (by omega))) ?_; clear hS; intro a hS
        refine s_val hS (by decide) rfl rfl (r_indexS0 hS rfl rfl Try.underlying26 sz22 (by omega)) ?_; clear hS; intro a hS
        refine s_val hS (by decide) rfl rfl (r_load hS hM rfl (j := 2) rfl Try.underlying22 rfl (cells_get (by omega))) ?_; clear hS; intro a hS
        refine s_val hS (by decide) rfl rfl (r_move hS rfl) ?_; clear hS; intro a hS
        refine s_val hS (by decide) rfl rfl (r_bv hS rfl (show ev _ _ = some (N 16) from rfl) gN (b_remN _ _ _ (by omega))) ?_; clear hS; intro a hS
        refine s_val hS (by decide) rfl rfl (r_conv hS rfl (by kernel_rfl) Try.underlying43 (cv_NU _)) ?_; clear hS; intro a hS
        refine s_val hS (by decide) rfl rfl (r_bv hS (show ev _ _ = some (U 1#64) from rfl) rfl gU (b_shlU _ _ _ (BitVec.toNat _))) ?_; clear hS; intro a hS
        refine s_val hS (by decide) rfl rfl (r_bv hS rfl rfl gU (b_subU _ _ _)) ?_; clear hS; intro a hS
        refine s_val hS (by decide) rfl rfl (r_indexS0 hS rfl rfl Try.underlying26 sz22 (by omega)) ?_; clear hS; intro a hS
        refine s_storeU hS hM rfl rfl (j := 2) rfl sz22 (by omega) ?_; clear hS hM; intro a w hS hM
        rw [ofNat_toNat_lt (show (79 - j) % 16 < 18446744073709551616 by omega)] at hM
        rw [bit_sub' (sr80_bit 3 (cuG p.toNat) hk2) rfl] at hM
        refine s_nil ?_
        refine k_in ?_
        refine k_seq ?_
        refine c_region ?_
        refine s_val hS (by decide) rfl rfl (r_move hS rfl) ?_; clear hS; intro a hS
        refine s_val hS (by decide) rfl rfl (r_bv hS rfl (show ev _ _ = some (.int .i64 (1)) from rfl) gZ (b_subZ _ _ _ (by omega))) ?_; clear hS; intro a hS
        refine s_val hS (by decide) rfl rfl (r_assign hS rfl) ?_; clear hS; intro a hS
        refine s_nil ?_
        refine k_then ?_
        refine ⟨j + 1, by omega, by omega, hS.to _ ⟨rfl, rfl, rfl, rfl, congrArg (fun q => some (Value.int .i64 q)) (by omega), trivial⟩, (by first | exact ((hM.drop hb46).drop hb41).congr (by rw [sr80_yes h3]; try rfl) | exact ((hM.drop hb46).drop hb41).congr (by rw [sr80_no h3]; try rfl))⟩
      · have h3 : ((sr 3 (cuG p.toNat) 80 j) + 2 ^ (79 - j)) ^ 3 ≤ cuG p.toNat := by simpa [cube_of] using hc
        refine c_skip ?_
        refine k_in ?_
        refine k_seq ?_
        refine c_region ?_
        refine s_val hS (by decide) rfl rfl (r_move hS rfl) ?_; clear hS; intro a hS
        refine s_val hS (by decide) rfl rfl (r_bv hS rfl (show ev _ _ = some (.int .i64 (1)) from rfl) gZ (b_subZ _ _ _ (by omega))) ?_; clear hS; intro a hS
        refine s_val hS (by decide) rfl rfl (r_assign hS rfl) ?_; clear hS; intro a hS
        refine s_nil ?_
        refine k_then ?_
        refine ⟨j + 1, by omega, by omega, hS.to _ ⟨rfl, rfl, rfl, rfl, congrArg (fun q => some (Value.int .i64 q)) (by omega), trivial⟩, (by first | exact ((hM.drop hb46).drop hb41).congr (by rw [sr80_yes h3]; try rfl) | exact ((hM.drop hb46).drop hb41).congr (by rw [sr80_no h3]; try rfl))⟩
    · obtain rfl : j = 80 := by have := of_decide_eq_false hc; omega
      refine c_exit ?_
      refine k_thenx ?_
      refine k_thenx ?_
      refine k_inx ?_
      refine k_seq ?_
      refine c_seq ?_
      refine c_plan 19 (fun w => Mem w0 w _) [(6, _)] (by kernel_rfl) (by kernel_rfl) hS ⟨rfl, trivial⟩ (hM.drawn _) ?_; clear hS hM
      refine p_step rfl (fun a w hS hM => y_val rfl (r_move hS rfl)) ?_
      refine p_step rfl (fun a w hS hM => y_val rfl (r_indexS0 hS rfl (show ev _ _ = some (.int .i64 ((0 : Nat) : Int)) from rfl) Try.underlying26 sz22 (by decide))) ?_
      refine p_step rfl (fun a w hS hM => y_val rfl (r_load hS hM rfl (j := 0) rfl Try.underlying22 rfl (cells_get (by omega)))) ?_
      refine p_step rfl (fun a w hS hM => y_val rfl (r_move hS rfl)) ?_
      refine p_step rfl (fun a w hS hM => y_val rfl (r_indexS0 hS rfl (show ev _ _ = some (.int .i64 ((1 : Nat) : Int)) from rfl) Try.underlying26 sz22 (by decide))) ?_
      refine p_step rfl (fun a w hS hM => y_val rfl (r_load hS hM rfl (j := 0) rfl Try.underlying22 rfl (cells_get (by omega)))) ?_
      refine p_step rfl (fun a w hS hM => y_val rfl (r_bv hS rfl (show ev _ _ = some (.int .u64 ((16 : Nat) : Int)) from rfl) gU (b_shlU _ _ _ 16))) ?_
      refine p_step rfl (fun a w hS hM => y_val rfl (r_bv hS rfl rfl gU (b_addU _ _ _))) ?_
      refine p_step rfl (fun a w hS hM => y_val rfl (r_move hS rfl)) ?_
      refine p_step rfl (fun a w hS hM => y_val rfl (r_indexS0 hS rfl (show ev _ _ = some (.int .i64 ((2 : Nat) : Int)) from rfl) Try.underlying26 sz22 (by decide))) ?_
      refine p_step rfl (fun a w hS hM => y_val rfl (r_load hS hM rfl (j := 0) rfl Try.underlying22 rfl (cells_get (by omega)))) ?_
      refine p_step rfl (fun a w hS hM => y_val rfl (r_bv hS rfl (show ev _ _ = some (.int .u64 ((32 : Nat) : Int)) from rfl) gU (b_shlU _ _ _ 32))) ?_
      refine p_step rfl (fun a w hS hM => y_val rfl (r_bv hS rfl rfl gU (b_addU _ _ _))) ?_
      refine p_step rfl (fun a w hS hM => y_val rfl (r_move hS rfl)) ?_
      refine p_step rfl (fun a w hS hM => y_val rfl (r_indexS0 hS rfl (show ev _ _ = some (.int .i64 ((3 : Nat) : Int)) from rfl) Try.underlying26 sz22 (by decide))) ?_
      refine p_step rfl (fun a w hS hM => y_val rfl (r_load hS hM rfl (j := 0) rfl Try.underlying22 rfl (cells_get (by omega)))) ?_
      refine p_step rfl (fun a w hS hM => y_val rfl (r_bv hS rfl (show ev _ _ = some (.int .u64 ((48 : Nat) : Int)) from rfl) gU (b_shlU _ _ _ 48))) ?_
      refine p_step rfl (fun a w hS hM => y_val rfl (r_bv hS rfl rfl gU (b_addU _ _ _))) ?_
      refine p_step rfl (fun a w hS hM => y_val rfl (r_assign hS rfl)) ?_
      refine p_nil rfl ?_; intro a w hS hM
      refine s_nil ?_
      refine k_seq ?_
      refine c_ret ?_
      exact k_res1 hS rfl (RV.tmp rfl) ⟨(congrArg (fun q => Ending.returned (U q)) (by first | exact (by rw [cuU_no h1]) | exact rcu_end h1)), hM.done ⟨hb20, allGe_of ho.ge⟩⟩

set_option maxRecDepth 100000 in
theorem rsquare_ok (p : BitVec 64) (w0 : World) : Pure Try.prog 10 #[U p] w0 (U (sqU p)) := by
  refine ⟨by kernel_rfl, ?_⟩
  refine calls_sym Try.func10 rfl (by kernel_rfl) ?_
  intro a hS
  have hM : Mem w0 w0 [] := Mem.refl w0
  refine c_seq ?_
  refine c_region ?_
  refine s_val hS (by decide) rfl rfl (r_assign hS (show ev _ _ = some (U 0#64) from rfl)) ?_; clear hS; intro a hS
  refine s_nil ?_
  refine k_seq ?_
  refine c_seq ?_
  refine c_region ?_
  refine s_val hS (by decide) rfl rfl (r_move hS rfl) ?_; clear hS; intro a hS
  refine s_pure hS hM (by decide) (vs := [_, N 2]) rfl (rroot2_ok _ _) ?_; clear hS hM; intro a w hS hM
  refine s_val hS (by decide) rfl rfl (r_assign hS rfl) ?_; clear hS; intro a hS
  refine s_nil ?_
  refine k_seq ?_
  refine c_ret ?_
  exact k_res1 hS rfl (RV.tmp rfl) ⟨rfl, hM.done trivial⟩

set_option maxRecDepth 100000 in
theorem rcube_ok (p : BitVec 64) (w0 : World) : Pure Try.prog 12 #[U p] w0 (U (cuU p)) := by
  refine ⟨by kernel_rfl, ?_⟩
  refine calls_sym Try.func12 rfl (by kernel_rfl) ?_
  intro a hS
  have hM : Mem w0 w0 [] := Mem.refl w0
  refine c_seq ?_
  refine c_region ?_
  refine s_val hS (by decide) rfl rfl (r_assign hS (show ev _ _ = some (U 0#64) from rfl)) ?_; clear hS; intro a hS
  refine s_nil ?_
  refine k_seq ?_
  refine c_seq ?_
  refine c_region ?_
  refine s_val hS (by decide) rfl rfl (r_move hS rfl) ?_; clear hS; intro a hS
  refine s_pure hS hM (by decide) (vs := [_, N 3]) rfl (rroot3_ok _ _) ?_; clear hS hM; intro a w hS hM
  refine s_val hS (by decide) rfl rfl (r_assign hS rfl) ?_; clear hS; intro a hS
  refine s_nil ?_
  refine k_seq ?_
  refine c_ret ?_
  exact k_res1 hS rfl (RV.tmp rfl) ⟨rfl, hM.done trivial⟩
end Go.Proofs.Ytedlgmjpifokdaa
