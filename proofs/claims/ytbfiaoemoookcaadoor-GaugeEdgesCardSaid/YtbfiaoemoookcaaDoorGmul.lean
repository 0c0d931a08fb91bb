/- The walks of the library's product of words (small ones) and of its look at the head of a string. Printed by a program of mine (walk.py). -/
import Derived.Test.YtbfiaoemoookcaaDoorGfmt
namespace Go.Proofs.YtbfiaoemoookcaaDoor
open Go Go.Sym

def zeros64 : List UInt8 := List.replicate 64 48
def spaces : List UInt8 := List.replicate 128 32
def dashes : List UInt8 := List.replicate 128 45



set_option maxRecDepth 100000 in
theorem mul64_2 (w0 : World) : Pure Tryd.prog 52 #[U 1#64, U 2#64] w0 (.tuple #[U 0#64, U 2#64]) := by
  refine ⟨by kernel_rfl, ?_⟩
  refine calls_sym Tryd.func52 rfl (by kernel_rfl) ?_
  intro a hS
  have hM : Mem w0 w0 [] := Mem.refl w0
  refine c_seq ?_
  refine c_region ?_
  refine s_val hS (by decide) rfl rfl (r_assign hS (show ev _ _ = some (U 0#64) from rfl)) ?_; clear hS; intro a hS
  refine s_val hS (by decide) rfl rfl (r_assign hS (show ev _ _ = some (U 0#64) from rfl)) ?_; clear hS; intro a hS
  refine s_nil ?_
  refine k_seq ?_
  refine c_seq ?_
  refine c_region ?_
  refine s_val hS (by decide) rfl rfl (r_move hS rfl) ?_; clear hS; intro a hS
  refine s_val hS (by decide) rfl rfl (r_bv hS rfl (show ev _ _ = some (U 4294967295#64) from rfl) gU (b_andU _ _ _)) ?_; clear hS; intro a hS
  refine s_val hS (by decide) rfl rfl (r_assign hS rfl) ?_; clear hS; intro a hS
  refine s_nil ?_
  refine k_seq ?_
  refine c_seq ?_
  refine c_region ?_
  refine s_val hS (by decide) rfl rfl (r_move hS rfl) ?_; clear hS; intro a hS
  refine s_val hS (by decide) rfl rfl (r_bv hS rfl (show ev _ _ = some (.int .u64 ((32 : Nat) : Int)) from rfl) gU (b_shrU _ _ _ 32)) ?_; clear hS; intro a hS
  refine s_val hS (by decide) rfl rfl (r_assign hS rfl) ?_; clear hS; intro a hS
  refine s_nil ?_
  refine k_seq ?_
  refine c_seq ?_
  refine c_region ?_
  refine s_val hS (by decide) rfl rfl (r_move hS rfl) ?_; clear hS; intro a hS
  refine s_val hS (by decide) rfl rfl (r_bv hS rfl (show ev _ _ = some (U 4294967295#64) from rfl) gU (b_andU _ _ _)) ?_; clear hS; intro a hS
  refine s_val hS (by decide) rfl rfl (r_assign hS rfl) ?_; clear hS; intro a hS
  refine s_nil ?_
  refine k_seq ?_
  refine c_seq ?_
  refine c_region ?_
  refine s_val hS (by decide) rfl rfl (r_move hS rfl) ?_; clear hS; intro a hS
  refine s_val hS (by decide) rfl rfl (r_bv hS rfl (show ev _ _ = some (.int .u64 ((32 : Nat) : Int)) from rfl) gU (b_shrU _ _ _ 32)) ?_; clear hS; intro a hS
  refine s_val hS (by decide) rfl rfl (r_assign hS rfl) ?_; clear hS; intro a hS
  refine s_nil ?_
  refine k_seq ?_
  refine c_seq ?_
  refine c_region ?_
  refine s_val hS (by decide) rfl rfl (r_move hS rfl) ?_; clear hS; intro a hS
  refine s_val hS (by decide) rfl rfl (r_move hS rfl) ?_; clear hS; intro a hS
  refine s_val hS (by decide) rfl rfl (r_bv hS rfl rfl gU (b_mulU _ _ _)) ?_; clear hS; intro a hS
  refine s_val hS (by decide) rfl rfl (r_assign hS rfl) ?_; clear hS; intro a hS
  refine s_nil ?_
  refine k_seq ?_
  refine c_seq ?_
  refine c_region ?_
  refine s_val hS (by decide) rfl rfl (r_move hS rfl) ?_; clear hS; intro a hS
  refine s_val hS (by decide) rfl rfl (r_move hS rfl) ?_; clear hS; intro a hS
  refine s_val hS (by decide) rfl rfl (r_bv hS rfl rfl gU (b_mulU _ _ _)) ?_; clear hS; intro a hS
  refine s_val hS (by decide) rfl rfl (r_move hS rfl) ?_; clear hS; intro a hS
  refine s_val hS (by decide) rfl rfl (r_bv hS rfl (show ev _ _ = some (.int .u64 ((32 : Nat) : Int)) from rfl) gU (b_shrU _ _ _ 32)) ?_; clear hS; intro a hS
  refine s_val hS (by decide) rfl rfl (r_bv hS rfl rfl gU (b_addU _ _ _)) ?_; clear hS; intro a hS
  refine s_val hS (by decide) rfl rfl (r_assign hS rfl) ?_; clear hS; intro a hS
  refine s_nil ?_
  refine k_seq ?_
  refine c_seq ?_
  refine c_region ?_
  refine s_val hS (by decide) rfl rfl (r_move hS rfl) ?_; clear hS; intro a hS
  refine s_val hS (by decide) rfl rfl (r_bv hS rfl (show ev _ _ = some (U 4294967295#64) from rfl) gU (b_andU _ _ _)) ?_; clear hS; intro a hS
  refine s_val hS (by decide) rfl rfl (r_assign hS rfl) ?_; clear hS; intro a hS
  refine s_nil ?_
  refine k_seq ?_
  refine c_seq ?_
  refine c_region ?_
  refine s_val hS (by decide) rfl rfl (r_move hS rfl) ?_; clear hS; intro a hS
  refine s_val hS (by decide) rfl rfl (r_bv hS rfl (show ev _ _ = some (.int .u64 ((32 : Nat) : Int)) from rfl) gU (b_shrU _ _ _ 32)) ?_; clear hS; intro a hS
  refine s_val hS (by decide) rfl rfl (r_assign hS rfl) ?_; clear hS; intro a hS
  refine s_nil ?_
  refine k_seq ?_
  refine c_seq ?_
  refine c_region ?_
  refine s_val hS (by decide) rfl rfl (r_move hS rfl) ?_; clear hS; intro a hS
  refine s_val hS (by decide) rfl rfl (r_move hS rfl) ?_; clear hS; intro a hS
  refine s_val hS (by decide) rfl rfl (r_move hS rfl) ?_; clear hS; intro a hS
  refine s_val hS (by decide) rfl rfl (r_bv hS rfl rfl gU (b_mulU _ _ _)) ?_; clear hS; intro a hS
  refine s_val hS (by decide) rfl rfl (r_bv hS rfl rfl gU (b_addU _ _ _)) ?_; clear hS; intro a hS
  refine s_val hS (by decide) rfl rfl (r_assign hS rfl) ?_; clear hS; intro a hS
  refine s_nil ?_
  refine k_seq ?_
  refine c_seq ?_
  refine c_region ?_
  refine s_val hS (by decide) rfl rfl (r_move hS rfl) ?_; clear hS; intro a hS
  refine s_val hS (by decide) rfl rfl (r_move hS rfl) ?_; clear hS; intro a hS
  refine s_val hS (by decide) rfl rfl (r_bv hS rfl rfl gU (b_mulU _ _ _)) ?_; clear hS; intro a hS
  refine s_val hS (by decide) rfl rfl (r_move hS rfl) ?_; clear hS; intro a hS
  refine s_val hS (by decide) rfl rfl (r_bv hS rfl rfl gU (b_addU _ _ _)) ?_; clear hS; intro a hS
  refine s_val hS (by decide) rfl rfl (r_move hS rfl) ?_; clear hS; intro a hS
  refine s_val hS (by decide) rfl rfl (r_bv hS rfl (show ev _ _ = some (.int .u64 ((32 : Nat) : Int)) from rfl) gU (b_shrU _ _ _ 32)) ?_; clear hS; intro a hS
  refine s_val hS (by decide) rfl rfl (r_bv hS rfl rfl gU (b_addU _ _ _)) ?_; clear hS; intro a hS
  refine s_val hS (by decide) rfl rfl (r_assign hS rfl) ?_; clear hS; intro a hS
  refine s_nil ?_
  refine k_seq ?_
  refine c_seq ?_
  refine c_region ?_
  refine s_val hS (by decide) rfl rfl (r_move hS rfl) ?_; clear hS; intro a hS
  refine s_val hS (by decide) rfl rfl (r_move hS rfl) ?_; clear hS; intro a hS
  refine s_val hS (by decide) rfl rfl (r_bv hS rfl rfl gU (b_mulU _ _ _)) ?_; clear hS; intro a hS
  refine s_val hS (by decide) rfl rfl (r_assign hS rfl) ?_; clear hS; intro a hS
  refine s_nil ?_
  refine k_seq ?_
  refine c_ret ?_
  exact k_res2 hS rfl (RV.tmp rfl) (RV.tmp rfl) ⟨(congrArg Ending.returned (by kernel_rfl)), hM.done trivial⟩

set_option maxRecDepth 100000 in
theorem mul_2 (w0 : World) : Pure Tryd.prog 41 #[U 1#64, U 2#64] w0 (.tuple #[U 0#64, U 2#64]) := by
  refine ⟨by kernel_rfl, ?_⟩
  refine calls_sym Tryd.func41 rfl (by kernel_rfl) ?_
  intro a hS
  have hM : Mem w0 w0 [] := Mem.refl w0
  refine c_seq ?_
  refine c_region ?_
  refine s_val hS (by decide) rfl rfl (r_assign hS (show ev _ _ = some (U 0#64) from rfl)) ?_; clear hS; intro a hS
  refine s_val hS (by decide) rfl rfl (r_assign hS (show ev _ _ = some (U 0#64) from rfl)) ?_; clear hS; intro a hS
  refine s_nil ?_
  refine k_seq ?_
  refine c_seq ?_
  refine c_false hS rfl rfl ?_
  refine c_skip ?_
  refine k_seq ?_
  refine c_seq ?_
  refine c_region ?_
  refine s_val hS (by decide) rfl rfl (r_move hS rfl) ?_; clear hS; intro a hS
  refine s_val hS (by decide) rfl rfl (r_move hS rfl) ?_; clear hS; intro a hS
  refine s_pure hS hM (by decide) rfl (mul64_2 _) ?_; clear hS hM; intro a w hS hM
  refine s_val hS (by decide) rfl rfl (r_move hS rfl) ?_; clear hS; intro a hS
  refine s_val hS (by decide) rfl rfl (r_extract hS rfl rfl) ?_; clear hS; intro a hS
  refine s_val hS (by decide) rfl rfl (r_extract hS rfl rfl) ?_; clear hS; intro a hS
  refine s_val hS (by decide) rfl rfl (r_assign hS rfl) ?_; clear hS; intro a hS
  refine s_val hS (by decide) rfl rfl (r_assign hS rfl) ?_; clear hS; intro a hS
  refine s_nil ?_
  refine k_seq ?_
  refine c_seq ?_
  refine c_region ?_
  refine s_val hS (by decide) rfl rfl (r_move hS rfl) ?_; clear hS; intro a hS
  refine s_val hS (by decide) rfl rfl (r_move hS rfl) ?_; clear hS; intro a hS
  refine s_val hS (by decide) rfl rfl (r_assign hS rfl) ?_; clear hS; intro a hS
  refine s_val hS (by decide) rfl rfl (r_assign hS rfl) ?_; clear hS; intro a hS
  refine s_nil ?_
  refine k_seq ?_
  refine c_ret ?_
  exact k_res2 hS rfl (RV.tmp rfl) (RV.tmp rfl) ⟨rfl, hM.done trivial⟩

set_option maxRecDepth 100000 in
theorem mul64_3 (w0 : World) : Pure Tryd.prog 52 #[U 1#64, U 3#64] w0 (.tuple #[U 0#64, U 3#64]) := by
  refine ⟨by kernel_rfl, ?_⟩
  refine calls_sym Tryd.func52 rfl (by kernel_rfl) ?_
  intro a hS
  have hM : Mem w0 w0 [] := Mem.refl w0
  refine c_seq ?_
  refine c_region ?_
  refine s_val hS (by decide) rfl rfl (r_assign hS (show ev _ _ = some (U 0#64) from rfl)) ?_; clear hS; intro a hS
  refine s_val hS (by decide) rfl rfl (r_assign hS (show ev _ _ = some (U 0#64) from rfl)) ?_; clear hS; intro a hS
  refine s_nil ?_
  refine k_seq ?_
  refine c_seq ?_
  refine c_region ?_
  refine s_val hS (by decide) rfl rfl (r_move hS rfl) ?_; clear hS; intro a hS
  refine s_val hS (by decide) rfl rfl (r_bv hS rfl (show ev _ _ = some (U 4294967295#64) from rfl) gU (b_andU _ _ _)) ?_; clear hS; intro a hS
  refine s_val hS (by decide) rfl rfl (r_assign hS rfl) ?_; clear hS; intro a hS
  refine s_nil ?_
  refine k_seq ?_
  refine c_seq ?_
  refine c_region ?_
  refine s_val hS (by decide) rfl rfl (r_move hS rfl) ?_; clear hS; intro a hS
  refine s_val hS (by decide) rfl rfl (r_bv hS rfl (show ev _ _ = some (.int .u64 ((32 : Nat) : Int)) from rfl) gU (b_shrU _ _ _ 32)) ?_; clear hS; intro a hS
  refine s_val hS (by decide) rfl rfl (r_assign hS rfl) ?_; clear hS; intro a hS
  refine s_nil ?_
  refine k_seq ?_
  refine c_seq ?_
  refine c_region ?_
  refine s_val hS (by decide) rfl rfl (r_move hS rfl) ?_; clear hS; intro a hS
  refine s_val hS (by decide) rfl rfl (r_bv hS rfl (show ev _ _ = some (U 4294967295#64) from rfl) gU (b_andU _ _ _)) ?_; clear hS; intro a hS
  refine s_val hS (by decide) rfl rfl (r_assign hS rfl) ?_; clear hS; intro a hS
  refine s_nil ?_
  refine k_seq ?_
  refine c_seq ?_
  refine c_region ?_
  refine s_val hS (by decide) rfl rfl (r_move hS rfl) ?_; clear hS; intro a hS
  refine s_val hS (by decide) rfl rfl (r_bv hS rfl (show ev _ _ = some (.int .u64 ((32 : Nat) : Int)) from rfl) gU (b_shrU _ _ _ 32)) ?_; clear hS; intro a hS
  refine s_val hS (by decide) rfl rfl (r_assign hS rfl) ?_; clear hS; intro a hS
  refine s_nil ?_
  refine k_seq ?_
  refine c_seq ?_
  refine c_region ?_
  refine s_val hS (by decide) rfl rfl (r_move hS rfl) ?_; clear hS; intro a hS
  refine s_val hS (by decide) rfl rfl (r_move hS rfl) ?_; clear hS; intro a hS
  refine s_val hS (by decide) rfl rfl (r_bv hS rfl rfl gU (b_mulU _ _ _)) ?_; clear hS; intro a hS
  refine s_val hS (by decide) rfl rfl (r_assign hS rfl) ?_; clear hS; intro a hS
  refine s_nil ?_
  refine k_seq ?_
  refine c_seq ?_
  refine c_region ?_
  refine s_val hS (by decide) rfl rfl (r_move hS rfl) ?_; clear hS; intro a hS
  refine s_val hS (by decide) rfl rfl (r_move hS rfl) ?_; clear hS; intro a hS
  refine s_val hS (by decide) rfl rfl (r_bv hS rfl rfl gU (b_mulU _ _ _)) ?_; clear hS; intro a hS
  refine s_val hS (by decide) rfl rfl (r_move hS rfl) ?_; clear hS; intro a hS
  refine s_val hS (by decide) rfl rfl (r_bv hS rfl (show ev _ _ = some (.int .u64 ((32 : Nat) : Int)) from rfl) gU (b_shrU _ _ _ 32)) ?_; clear hS; intro a hS
  refine s_val hS (by decide) rfl rfl (r_bv hS rfl rfl gU (b_addU _ _ _)) ?_; clear hS; intro a hS
  refine s_val hS (by decide) rfl rfl (r_assign hS rfl) ?_; clear hS; intro a hS
  refine s_nil ?_
  refine k_seq ?_
  refine c_seq ?_
  refine c_region ?_
  refine s_val hS (by decide) rfl rfl (r_move hS rfl) ?_; clear hS; intro a hS
  refine s_val hS (by decide) rfl rfl (r_bv hS rfl (show ev _ _ = some (U 4294967295#64) from rfl) gU (b_andU _ _ _)) ?_; clear hS; intro a hS
  refine s_val hS (by decide) rfl rfl (r_assign hS rfl) ?_; clear hS; intro a hS
  refine s_nil ?_
  refine k_seq ?_
  refine c_seq ?_
  refine c_region ?_
  refine s_val hS (by decide) rfl rfl (r_move hS rfl) ?_; clear hS; intro a hS
  refine s_val hS (by decide) rfl rfl (r_bv hS rfl (show ev _ _ = some (.int .u64 ((32 : Nat) : Int)) from rfl) gU (b_shrU _ _ _ 32)) ?_; clear hS; intro a hS
  refine s_val hS (by decide) rfl rfl (r_assign hS rfl) ?_; clear hS; intro a hS
  refine s_nil ?_
  refine k_seq ?_
  refine c_seq ?_
  refine c_region ?_
  refine s_val hS (by decide) rfl rfl (r_move hS rfl) ?_; clear hS; intro a hS
  refine s_val hS (by decide) rfl rfl (r_move hS rfl) ?_; clear hS; intro a hS
  refine s_val hS (by decide) rfl rfl (r_move hS rfl) ?_; clear hS; intro a hS
  refine s_val hS (by decide) rfl rfl (r_bv hS rfl rfl gU (b_mulU _ _ _)) ?_; clear hS; intro a hS
  refine s_val hS (by decide) rfl rfl (r_bv hS rfl rfl gU (b_addU _ _ _)) ?_; clear hS; intro a hS
  refine s_val hS (by decide) rfl rfl (r_assign hS rfl) ?_; clear hS; intro a hS
  refine s_nil ?_
  refine k_seq ?_
  refine c_seq ?_
  refine c_region ?_
  refine s_val hS (by decide) rfl rfl (r_move hS rfl) ?_; clear hS; intro a hS
  refine s_val hS (by decide) rfl rfl (r_move hS rfl) ?_; clear hS; intro a hS
  refine s_val hS (by decide) rfl rfl (r_bv hS rfl rfl gU (b_mulU _ _ _)) ?_; clear hS; intro a hS
  refine s_val hS (by decide) rfl rfl (r_move hS rfl) ?_; clear hS; intro a hS
  refine s_val hS (by decide) rfl rfl (r_bv hS rfl rfl gU (b_addU _ _ _)) ?_; clear hS; intro a hS
  refine s_val hS (by decide) rfl rfl (r_move hS rfl) ?_; clear hS; intro a hS
  refine s_val hS (by decide) rfl rfl (r_bv hS rfl (show ev _ _ = some (.int .u64 ((32 : Nat) : Int)) from rfl) gU (b_shrU _ _ _ 32)) ?_; clear hS; intro a hS
  refine s_val hS (by decide) rfl rfl (r_bv hS rfl rfl gU (b_addU _ _ _)) ?_; clear hS; intro a hS
  refine s_val hS (by decide) rfl rfl (r_assign hS rfl) ?_; clear hS; intro a hS
  refine s_nil ?_
  refine k_seq ?_
  refine c_seq ?_
  refine c_region ?_
  refine s_val hS (by decide) rfl rfl (r_move hS rfl) ?_; clear hS; intro a hS
  refine s_val hS (by decide) rfl rfl (r_move hS rfl) ?_; clear hS; intro a hS
  refine s_val hS (by decide) rfl rfl (r_bv hS rfl rfl gU (b_mulU _ _ _)) ?_; clear hS; intro a hS
  refine s_val hS (by decide) rfl rfl (r_assign hS rfl) ?_; clear hS; intro a hS
  refine s_nil ?_
  refine k_seq ?_
  refine c_ret ?_
  exact k_res2 hS rfl (RV.tmp rfl) (RV.tmp rfl) ⟨(congrArg Ending.returned (by kernel_rfl)), hM.done trivial⟩

set_option maxRecDepth 100000 in
theorem mul_3 (w0 : World) : Pure Tryd.prog 41 #[U 1#64, U 3#64] w0 (.tuple #[U 0#64, U 3#64]) := by
  refine ⟨by kernel_rfl, ?_⟩
  refine calls_sym Tryd.func41 rfl (by kernel_rfl) ?_
  intro a hS
  have hM : Mem w0 w0 [] := Mem.refl w0
  refine c_seq ?_
  refine c_region ?_
  refine s_val hS (by decide) rfl rfl (r_assign hS (show ev _ _ = some (U 0#64) from rfl)) ?_; clear hS; intro a hS
  refine s_val hS (by decide) rfl rfl (r_assign hS (show ev _ _ = some (U 0#64) from rfl)) ?_; clear hS; intro a hS
  refine s_nil ?_
  refine k_seq ?_
  refine c_seq ?_
  refine c_false hS rfl rfl ?_
  refine c_skip ?_
  refine k_seq ?_
  refine c_seq ?_
  refine c_region ?_
  refine s_val hS (by decide) rfl rfl (r_move hS rfl) ?_; clear hS; intro a hS
  refine s_val hS (by decide) rfl rfl (r_move hS rfl) ?_; clear hS; intro a hS
  refine s_pure hS hM (by decide) rfl (mul64_3 _) ?_; clear hS hM; intro a w hS hM
  refine s_val hS (by decide) rfl rfl (r_move hS rfl) ?_; clear hS; intro a hS
  refine s_val hS (by decide) rfl rfl (r_extract hS rfl rfl) ?_; clear hS; intro a hS
  refine s_val hS (by decide) rfl rfl (r_extract hS rfl rfl) ?_; clear hS; intro a hS
  refine s_val hS (by decide) rfl rfl (r_assign hS rfl) ?_; clear hS; intro a hS
  refine s_val hS (by decide) rfl rfl (r_assign hS rfl) ?_; clear hS; intro a hS
  refine s_nil ?_
  refine k_seq ?_
  refine c_seq ?_
  refine c_region ?_
  refine s_val hS (by decide) rfl rfl (r_move hS rfl) ?_; clear hS; intro a hS
  refine s_val hS (by decide) rfl rfl (r_move hS rfl) ?_; clear hS; intro a hS
  refine s_val hS (by decide) rfl rfl (r_assign hS rfl) ?_; clear hS; intro a hS
  refine s_val hS (by decide) rfl rfl (r_assign hS rfl) ?_; clear hS; intro a hS
  refine s_nil ?_
  refine k_seq ?_
  refine c_ret ?_
  exact k_res2 hS rfl (RV.tmp rfl) (RV.tmp rfl) ⟨rfl, hM.done trivial⟩

set_option maxRecDepth 100000 in
theorem h53_zeros64 (w0 : World) : Pure Tryd.prog 53 #[SV zeros64, SV [48]] w0 (.bool true) := by
  refine ⟨by kernel_rfl, ?_⟩
  refine calls_sym Tryd.func53 rfl (by kernel_rfl) ?_
  intro a hS
  have hM : Mem w0 w0 [] := Mem.refl w0
  refine c_seq ?_
  refine c_region ?_
  refine s_val hS (by decide) rfl rfl (r_assign hS rfl) ?_; clear hS; intro a hS
  refine s_nil ?_
  refine k_seq ?_
  refine c_seq ?_
  refine c_region ?_
  refine s_val hS (by decide) rfl rfl (r_move hS rfl) ?_; clear hS; intro a hS
  refine s_val hS (by decide) rfl rfl (r_lenS hS rfl Tryd.underlying9) ?_; clear hS; intro a hS
  refine s_val hS (by decide) rfl rfl (r_move hS rfl) ?_; clear hS; intro a hS
  refine s_val hS (by decide) rfl rfl (r_lenS hS rfl Tryd.underlying9) ?_; clear hS; intro a hS
  refine s_val hS (by decide) rfl rfl (r_bv hS rfl rfl gN (b_geqN _ _ _)) ?_; clear hS; intro a hS
  refine s_val hS (by decide) rfl rfl (r_move hS rfl) ?_; clear hS; intro a hS
  refine s_valg hS (by decide) rfl rfl rfl rfl rfl (r_move hS rfl) ?_; clear hS; intro a hS
  refine s_valg hS (by decide) rfl rfl rfl rfl rfl (r_move hS rfl) ?_; clear hS; intro a hS
  refine s_valg hS (by decide) rfl rfl rfl rfl rfl (r_lenS hS rfl Tryd.underlying9) ?_; clear hS; intro a hS
  refine s_valg hS (by decide) rfl rfl rfl rfl rfl (r_partS hS rfl rfl ⟨_, rfl⟩ Tryd.underlying9 (by decide) (by decide)) ?_; clear hS; intro a hS
  refine s_valg hS (by decide) rfl rfl rfl rfl rfl (r_move hS rfl) ?_; clear hS; intro a hS
  refine s_valg hS (by decide) rfl rfl rfl rfl rfl (r_eqlS hS rfl rfl) ?_; clear hS; intro a hS
  refine s_val hS (by decide) rfl rfl (r_pick hS rfl rfl) ?_; clear hS; intro a hS
  refine s_val hS (by decide) rfl rfl (r_assign hS rfl) ?_; clear hS; intro a hS
  refine s_nil ?_
  refine k_seq ?_
  refine c_ret ?_
  exact k_res1 hS rfl (RV.tmp rfl) ⟨(congrArg (fun q => Ending.returned (.bool q)) (by decide)), hM.done trivial⟩

set_option maxRecDepth 100000 in
theorem h42_zeros64 (w0 : World) : Pure Tryd.prog 42 #[SV zeros64, SV [48]] w0 (.bool true) := by
  refine ⟨by kernel_rfl, ?_⟩
  refine calls_sym Tryd.func42 rfl (by kernel_rfl) ?_
  intro a hS
  have hM : Mem w0 w0 [] := Mem.refl w0
  refine c_seq ?_
  refine c_region ?_
  refine s_val hS (by decide) rfl rfl (r_assign hS rfl) ?_; clear hS; intro a hS
  refine s_nil ?_
  refine k_seq ?_
  refine c_seq ?_
  refine c_region ?_
  refine s_val hS (by decide) rfl rfl (r_move hS rfl) ?_; clear hS; intro a hS
  refine s_val hS (by decide) rfl rfl (r_move hS rfl) ?_; clear hS; intro a hS
  refine s_pure hS hM (by decide) rfl (h53_zeros64 _) ?_; clear hS hM; intro a w hS hM
  refine s_val hS (by decide) rfl rfl (r_assign hS rfl) ?_; clear hS; intro a hS
  refine s_nil ?_
  refine k_seq ?_
  refine c_ret ?_
  exact k_res1 hS rfl (RV.tmp rfl) ⟨rfl, hM.done trivial⟩

set_option maxRecDepth 100000 in
theorem h53_spaces (w0 : World) : Pure Tryd.prog 53 #[SV spaces, SV [48]] w0 (.bool false) := by
  refine ⟨by kernel_rfl, ?_⟩
  refine calls_sym Tryd.func53 rfl (by kernel_rfl) ?_
  intro a hS
  have hM : Mem w0 w0 [] := Mem.refl w0
  refine c_seq ?_
  refine c_region ?_
  refine s_val hS (by decide) rfl rfl (r_assign hS rfl) ?_; clear hS; intro a hS
  refine s_nil ?_
  refine k_seq ?_
  refine c_seq ?_
  refine c_region ?_
  refine s_val hS (by decide) rfl rfl (r_move hS rfl) ?_; clear hS; intro a hS
  refine s_val hS (by decide) rfl rfl (r_lenS hS rfl Tryd.underlying9) ?_; clear hS; intro a hS
  refine s_val hS (by decide) rfl rfl (r_move hS rfl) ?_; clear hS; intro a hS
  refine s_val hS (by decide) rfl rfl (r_lenS hS rfl Tryd.underlying9) ?_; clear hS; intro a hS
  refine s_val hS (by decide) rfl rfl (r_bv hS rfl rfl gN (b_geqN _ _ _)) ?_; clear hS; intro a hS
  refine s_val hS (by decide) rfl rfl (r_move hS rfl) ?_; clear hS; intro a hS
  refine s_valg hS (by decide) rfl rfl rfl rfl rfl (r_move hS rfl) ?_; clear hS; intro a hS
  refine s_valg hS (by decide) rfl rfl rfl rfl rfl (r_move hS rfl) ?_; clear hS; intro a hS
  refine s_valg hS (by decide) rfl rfl rfl rfl rfl (r_lenS hS rfl Tryd.underlying9) ?_; clear hS; intro a hS
  refine s_valg hS (by decide) rfl rfl rfl rfl rfl (r_partS hS rfl rfl ⟨_, rfl⟩ Tryd.underlying9 (by decide) (by decide)) ?_; clear hS; intro a hS
  refine s_valg hS (by decide) rfl rfl rfl rfl rfl (r_move hS rfl) ?_; clear hS; intro a hS
  refine s_valg hS (by decide) rfl rfl rfl rfl rfl (r_eqlS hS rfl rfl) ?_; clear hS; intro a hS
  refine s_val hS (by decide) rfl rfl (r_pick hS rfl rfl) ?_; clear hS; intro a hS
  refine s_val hS (by decide) rfl rfl (r_assign hS rfl) ?_; clear hS; intro a hS
  refine s_nil ?_
  refine k_seq ?_
  refine c_ret ?_
  exact k_res1 hS rfl (RV.tmp rfl) ⟨(congrArg (fun q => Ending.returned (.bool q)) (by decide)), hM.done trivial⟩

set_option maxRecDepth 100000 in
theorem h42_spaces (w0 : World) : Pure Tryd.prog 42 #[SV spaces, SV [48]] w0 (.bool false) := by
  refine ⟨by kernel_rfl, ?_⟩
  refine calls_sym Tryd.func42 rfl (by kernel_rfl) ?_
  intro a hS
  have hM : Mem w0 w0 [] := Mem.refl w0
  refine c_seq ?_
  refine c_region ?_
  refine s_val hS (by decide) rfl rfl (r_assign hS rfl) ?_; clear hS; intro a hS
  refine s_nil ?_
  refine k_seq ?_
  refine c_seq ?_
  refine c_region ?_
  refine s_val hS (by decide) rfl rfl (r_move hS rfl) ?_; clear hS; intro a hS
  refine s_val hS (by decide) rfl rfl (r_move hS rfl) ?_; clear hS; intro a hS
  refine s_pure hS hM (by decide) rfl (h53_spaces _) ?_; clear hS hM; intro a w hS hM
  refine s_val hS (by decide) rfl rfl (r_assign hS rfl) ?_; clear hS; intro a hS
  refine s_nil ?_
  refine k_seq ?_
  refine c_ret ?_
  exact k_res1 hS rfl (RV.tmp rfl) ⟨rfl, hM.done trivial⟩

set_option maxRecDepth 100000 in
theorem h53_dashes (w0 : World) : Pure Tryd.prog 53 #[SV dashes, SV [48]] w0 (.bool false) := by
  refine ⟨by kernel_rfl, ?_⟩
  refine calls_sym Tryd.func53 rfl (by kernel_rfl) ?_
  intro a hS
  have hM : Mem w0 w0 [] := Mem.refl w0
  refine c_seq ?_
  refine c_region ?_
  refine s_val hS (by decide) rfl rfl (r_assign hS rfl) ?_; clear hS; intro a hS
  refine s_nil ?_
  refine k_seq ?_
  refine c_seq ?_
  refine c_region ?_
  refine s_val hS (by decide) rfl rfl (r_move hS rfl) ?_; clear hS; intro a hS
  refine s_val hS (by decide) rfl rfl (r_lenS hS rfl Tryd.underlying9) ?_; clear hS; intro a hS
  refine s_val hS (by decide) rfl rfl (r_move hS rfl) ?_; clear hS; intro a hS
  refine s_val hS (by decide) rfl rfl (r_lenS hS rfl Tryd.underlying9) ?_; clear hS; intro a hS
  refine s_val hS (by decide) rfl rfl (r_bv hS rfl rfl gN (b_geqN _ _ _)) ?_; clear hS; intro a hS
  refine s_val hS (by decide) rfl rfl (r_move hS rfl) ?_; clear hS; intro a hS
  refine s_valg hS (by decide) rfl rfl rfl rfl rfl (r_move hS rfl) ?_; clear hS; intro a hS
  refine s_valg hS (by decide) rfl rfl rfl rfl rfl (r_move hS rfl) ?_; clear hS; intro a hS
  refine s_valg hS (by decide) rfl rfl rfl rfl rfl (r_lenS hS rfl Tryd.underlying9) ?_; clear hS; intro a hS
  refine s_valg hS (by decide) rfl rfl rfl rfl rfl (r_partS hS rfl rfl ⟨_, rfl⟩ Tryd.underlying9 (by decide) (by decide)) ?_; clear hS; intro a hS
  refine s_valg hS (by decide) rfl rfl rfl rfl rfl (r_move hS rfl) ?_; clear hS; intro a hS
  refine s_valg hS (by decide) rfl rfl rfl rfl rfl (r_eqlS hS rfl rfl) ?_; clear hS; intro a hS
  refine s_val hS (by decide) rfl rfl (r_pick hS rfl rfl) ?_; clear hS; intro a hS
  refine s_val hS (by decide) rfl rfl (r_assign hS rfl) ?_; clear hS; intro a hS
  refine s_nil ?_
  refine k_seq ?_
  refine c_ret ?_
  exact k_res1 hS rfl (RV.tmp rfl) ⟨(congrArg (fun q => Ending.returned (.bool q)) (by decide)), hM.done trivial⟩

set_option maxRecDepth 100000 in
theorem h42_dashes (w0 : World) : Pure Tryd.prog 42 #[SV dashes, SV [48]] w0 (.bool false) := by
  refine ⟨by kernel_rfl, ?_⟩
  refine calls_sym Tryd.func42 rfl (by kernel_rfl) ?_
  intro a hS
  have hM : Mem w0 w0 [] := Mem.refl w0
  refine c_seq ?_
  refine c_region ?_
  refine s_val hS (by decide) rfl rfl (r_assign hS rfl) ?_; clear hS; intro a hS
  refine s_nil ?_
  refine k_seq ?_
  refine c_seq ?_
  refine c_region ?_
  refine s_val hS (by decide) rfl rfl (r_move hS rfl) ?_; clear hS; intro a hS
  refine s_val hS (by decide) rfl rfl (r_move hS rfl) ?_; clear hS; intro a hS
  refine s_pure hS hM (by decide) rfl (h53_dashes _) ?_; clear hS hM; intro a w hS hM
  refine s_val hS (by decide) rfl rfl (r_assign hS rfl) ?_; clear hS; intro a hS
  refine s_nil ?_
  refine k_seq ?_
  refine c_ret ?_
  exact k_res1 hS rfl (RV.tmp rfl) ⟨rfl, hM.done trivial⟩

set_option maxRecDepth 100000 in
theorem rep1_ok (w0 : World) : Pure Tryd.prog 38 #[SV [48], N 1] w0 (SV [48]) := by
  refine ⟨by kernel_rfl, ?_⟩
  refine calls_sym Tryd.func38 rfl (by kernel_rfl) ?_
  intro a hS
  have hM : Mem w0 w0 [] := Mem.refl w0
  refine c_seq ?_
  refine c_region ?_
  refine s_val hS (by decide) rfl rfl (r_assign hS (show ev _ _ = some (SV []) from rfl)) ?_; clear hS; intro a hS
  refine s_nil ?_
  refine k_seq ?_
  refine c_seq ?_
  refine c_seq ?_
  refine c_region ?_
  refine s_val hS (by decide) rfl rfl (r_move hS rfl) ?_; clear hS; intro a hS
  refine s_nil ?_
  refine k_seq ?_
  refine c_block ?_
  refine c_seq ?_
  refine c_region ?_
  refine s_val hS (by decide) rfl rfl (r_bv hS rfl (show ev _ _ = some (N 0) from rfl) gN (b_eqlN _ _ _)) ?_; clear hS; intro a hS
  refine s_val hS (by decide) rfl rfl (r_assign hS rfl) ?_; clear hS; intro a hS
  refine s_nil ?_
  refine k_seq ?_
  refine c_false hS rfl rfl ?_
  refine c_seq ?_
  refine c_region ?_
  refine s_val hS (by decide) rfl rfl (r_bv hS rfl (show ev _ _ = some (N 1) from rfl) gN (b_eqlN _ _ _)) ?_; clear hS; intro a hS
  refine s_val hS (by decide) rfl rfl (r_assign hS rfl) ?_; clear hS; intro a hS
  refine s_nil ?_
  refine k_seq ?_
  refine c_true hS rfl rfl ?_
  refine c_seq ?_
  refine c_region ?_
  refine s_val hS (by decide) rfl rfl (r_move hS rfl) ?_; clear hS; intro a hS
  refine s_val hS (by decide) rfl rfl (r_assign hS rfl) ?_; clear hS; intro a hS
  refine s_nil ?_
  refine k_seq ?_
  refine c_ret ?_
  refine k_inr ?_
  refine k_thenr ?_
  exact k_res1 hS rfl (RV.tmp rfl) ⟨rfl, hM.done trivial⟩

set_option maxRecDepth 100000 in
theorem rep2_ok (w0 : World) : Pure Tryd.prog 38 #[SV [48], N 2] w0 (SV [48, 48]) := by
  refine ⟨by kernel_rfl, ?_⟩
  refine calls_sym Tryd.func38 rfl (by kernel_rfl) ?_
  intro a hS
  have hM : Mem w0 w0 [] := Mem.refl w0
  refine c_seq ?_
  refine c_region ?_
  refine s_val hS (by decide) rfl rfl (r_assign hS (show ev _ _ = some (SV []) from rfl)) ?_; clear hS; intro a hS
  refine s_nil ?_
  refine k_seq ?_
  refine c_seq ?_
  refine c_seq ?_
  refine c_region ?_
  refine s_val hS (by decide) rfl rfl (r_move hS rfl) ?_; clear hS; intro a hS
  refine s_nil ?_
  refine k_seq ?_
  refine c_block ?_
  refine c_seq ?_
  refine c_region ?_
  refine s_val hS (by decide) rfl rfl (r_bv hS rfl (show ev _ _ = some (N 0) from rfl) gN (b_eqlN _ _ _)) ?_; clear hS; intro a hS
  refine s_val hS (by decide) rfl rfl (r_assign hS rfl) ?_; clear hS; intro a hS
  refine s_nil ?_
  refine k_seq ?_
  refine c_false hS rfl rfl ?_
  refine c_seq ?_
  refine c_region ?_
  refine s_val hS (by decide) rfl rfl (r_bv hS rfl (show ev _ _ = some (N 1) from rfl) gN (b_eqlN _ _ _)) ?_; clear hS; intro a hS
  refine s_val hS (by decide) rfl rfl (r_assign hS rfl) ?_; clear hS; intro a hS
  refine s_nil ?_
  refine k_seq ?_
  refine c_false hS rfl rfl ?_
  refine c_skip ?_
  refine k_in ?_
  refine k_seq ?_
  refine c_seq ?_
  refine c_seq ?_
  refine c_region ?_
  refine s_val hS (by decide) rfl rfl (r_move hS rfl) ?_; clear hS; intro a hS
  refine s_val hS (by decide) rfl rfl (r_bv hS rfl (show ev _ _ = some (N 0) from rfl) gN (b_lssN _ _ _)) ?_; clear hS; intro a hS
  refine s_nil ?_
  refine k_seq ?_
  refine c_false hS rfl rfl ?_
  refine c_skip ?_
  refine k_seq ?_
  refine c_seq ?_
  refine c_region ?_
  refine s_val hS (by decide) rfl rfl (r_move hS rfl) ?_; clear hS; intro a hS
  refine s_val hS (by decide) rfl rfl (r_lenS hS rfl Tryd.underlying9) ?_; clear hS; intro a hS
  refine s_val hS (by decide) rfl rfl (r_conv hS rfl (by kernel_rfl) Tryd.underlying51 (cv_NU _)) ?_; clear hS; intro a hS
  refine s_val hS (by decide) rfl rfl (r_move hS rfl) ?_; clear hS; intro a hS
  refine s_val hS (by decide) rfl rfl (r_conv hS rfl (by kernel_rfl) Tryd.underlying51 (cv_NU _)) ?_; clear hS; intro a hS
  refine s_pure hS hM (by decide) rfl (mul_2 _) ?_; clear hS hM; intro a w hS hM
  refine s_val hS (by decide) rfl rfl (r_move hS rfl) ?_; clear hS; intro a hS
  refine s_val hS (by decide) rfl rfl (r_extract hS rfl rfl) ?_; clear hS; intro a hS
  refine s_val hS (by decide) rfl rfl (r_extract hS rfl rfl) ?_; clear hS; intro a hS
  refine s_val hS (by decide) rfl rfl (r_assign hS rfl) ?_; clear hS; intro a hS
  refine s_val hS (by decide) rfl rfl (r_assign hS rfl) ?_; clear hS; intro a hS
  refine s_nil ?_
  refine k_seq ?_
  refine c_seq ?_
  refine c_seq ?_
  refine c_region ?_
  refine s_val hS (by decide) rfl rfl (r_move hS rfl) ?_; clear hS; intro a hS
  refine s_val hS (by decide) rfl rfl (r_bv hS rfl (show ev _ _ = some (U 0#64) from rfl) gU (b_gtrU _ _ _)) ?_; clear hS; intro a hS
  refine s_val hS (by decide) rfl rfl (r_move hS rfl) ?_; clear hS; intro a hS
  refine s_valg hS (by decide) rfl rfl rfl rfl rfl (r_move hS rfl) ?_; clear hS; intro a hS
  refine s_valg hS (by decide) rfl rfl rfl rfl rfl (r_bv hS rfl (show ev _ _ = some (U 9223372036854775807#64) from rfl) gU (b_gtrU _ _ _)) ?_; clear hS; intro a hS
  refine s_val hS (by decide) rfl rfl (r_pick hS rfl rfl) ?_; clear hS; intro a hS
  refine s_nil ?_
  refine k_seq ?_
  refine c_false hS rfl rfl ?_
  refine c_skip ?_
  refine k_seq ?_
  refine c_seq ?_
  refine c_region ?_
  refine s_val hS (by decide) rfl rfl (r_move hS rfl) ?_; clear hS; intro a hS
  refine s_val hS (by decide) rfl rfl (r_conv hS rfl (by kernel_rfl) Tryd.underlying3 (show _ = N 2 from rfl)) ?_; clear hS; intro a hS
  refine s_val hS (by decide) rfl rfl (r_assign hS rfl) ?_; clear hS; intro a hS
  refine s_nil ?_
  refine k_seq ?_
  refine c_seq ?_
  refine c_seq ?_
  refine c_region ?_
  refine s_val hS (by decide) rfl rfl (r_move hS rfl) ?_; clear hS; intro a hS
  refine s_val hS (by decide) rfl rfl (r_lenS hS rfl Tryd.underlying9) ?_; clear hS; intro a hS
  refine s_val hS (by decide) rfl rfl (r_bv hS rfl (show ev _ _ = some (N 0) from rfl) gN (b_eqlN _ _ _)) ?_; clear hS; intro a hS
  refine s_nil ?_
  refine k_seq ?_
  refine c_false hS rfl rfl ?_
  refine c_skip ?_
  refine k_seq ?_
  refine c_seq ?_
  refine c_seq ?_
  refine c_region ?_
  refine s_val hS (by decide) rfl rfl (r_move hS rfl) ?_; clear hS; intro a hS
  refine s_val hS (by decide) rfl rfl (r_idxS hS rfl (show ev _ _ = some (.int .i64 ((0 : Nat) : Int)) from rfl) Tryd.underlying9 (c := 48#8) rfl) ?_; clear hS; intro a hS
  refine s_nil ?_
  refine k_seq ?_
  refine c_block ?_
  refine c_seq ?_
  refine c_seq ?_
  refine c_region ?_
  refine s_val hS (by decide) rfl rfl (r_bv hS rfl (show ev _ _ = some (B 32#8) from rfl) gB (b_eqlB _ _ _)) ?_; clear hS; intro a hS
  refine s_val hS (by decide) rfl rfl (r_assign hS rfl) ?_; clear hS; intro a hS
  refine s_nil ?_
  refine k_seq ?_
  refine c_false hS rfl rfl ?_
  refine c_seq ?_
  refine c_region ?_
  refine s_val hS (by decide) rfl rfl (r_bv hS rfl (show ev _ _ = some (B 45#8) from rfl) gB (b_eqlB _ _ _)) ?_; clear hS; intro a hS
  refine s_val hS (by decide) rfl rfl (r_assign hS rfl) ?_; clear hS; intro a hS
  refine s_nil ?_
  refine k_seq ?_
  refine c_false hS rfl rfl ?_
  refine c_seq ?_
  refine c_region ?_
  refine s_val hS (by decide) rfl rfl (r_bv hS rfl (show ev _ _ = some (B 48#8) from rfl) gB (b_eqlB _ _ _)) ?_; clear hS; intro a hS
  refine s_val hS (by decide) rfl rfl (r_assign hS rfl) ?_; clear hS; intro a hS
  refine s_nil ?_
  refine k_seq ?_
  refine c_true hS rfl rfl ?_
  refine c_skip ?_
  refine k_seq ?_
  refine c_true hS rfl rfl ?_
  refine c_block ?_
  refine c_seq ?_
  refine c_region ?_
  refine s_val hS (by decide) rfl rfl (r_move hS rfl) ?_; clear hS; intro a hS
  refine s_val hS (by decide) rfl rfl (r_bv hS rfl (show ev _ _ = some (N 128) from rfl) gN (b_leqN _ _ _)) ?_; clear hS; intro a hS
  refine s_val hS (by decide) rfl rfl (r_move hS rfl) ?_; clear hS; intro a hS
  refine s_valg hS (by decide) rfl rfl rfl rfl rfl (r_move hS rfl) ?_; clear hS; intro a hS
  refine s_pureg hS hM (by decide) (vs := [SV spaces, _]) rfl rfl rfl rfl (h42_spaces _) ?_; clear hS hM; intro a w hS hM
  refine s_val hS (by decide) rfl rfl (r_pick hS rfl rfl) ?_; clear hS; intro a hS
  refine s_val hS (by decide) rfl rfl (r_assign hS rfl) ?_; clear hS; intro a hS
  refine s_nil ?_
  refine k_seq ?_
  refine c_false hS rfl rfl ?_
  refine c_seq ?_
  refine c_region ?_
  refine s_val hS (by decide) rfl rfl (r_move hS rfl) ?_; clear hS; intro a hS
  refine s_val hS (by decide) rfl rfl (r_bv hS rfl (show ev _ _ = some (N 128) from rfl) gN (b_leqN _ _ _)) ?_; clear hS; intro a hS
  refine s_val hS (by decide) rfl rfl (r_move hS rfl) ?_; clear hS; intro a hS
  refine s_valg hS (by decide) rfl rfl rfl rfl rfl (r_move hS rfl) ?_; clear hS; intro a hS
  refine s_pureg hS hM (by decide) (vs := [SV dashes, _]) rfl rfl rfl rfl (h42_dashes _) ?_; clear hS hM; intro a w hS hM
  refine s_val hS (by decide) rfl rfl (r_pick hS rfl rfl) ?_; clear hS; intro a hS
  refine s_val hS (by decide) rfl rfl (r_assign hS rfl) ?_; clear hS; intro a hS
  refine s_nil ?_
  refine k_seq ?_
  refine c_false hS rfl rfl ?_
  refine c_seq ?_
  refine c_region ?_
  refine s_val hS (by decide) rfl rfl (r_move hS rfl) ?_; clear hS; intro a hS
  refine s_val hS (by decide) rfl rfl (r_bv hS rfl (show ev _ _ = some (N 64) from rfl) gN (b_leqN _ _ _)) ?_; clear hS; intro a hS
  refine s_val hS (by decide) rfl rfl (r_move hS rfl) ?_; clear hS; intro a hS
  refine s_valg hS (by decide) rfl rfl rfl rfl rfl (r_move hS rfl) ?_; clear hS; intro a hS
  refine s_pureg hS hM (by decide) (vs := [SV zeros64, _]) rfl rfl rfl rfl (h42_zeros64 _) ?_; clear hS hM; intro a w hS hM
  refine s_val hS (by decide) rfl rfl (r_pick hS rfl rfl) ?_; clear hS; intro a hS
  refine s_val hS (by decide) rfl rfl (r_assign hS rfl) ?_; clear hS; intro a hS
  refine s_nil ?_
  refine k_seq ?_
  refine c_true hS rfl rfl ?_
  refine c_seq ?_
  refine c_region ?_
  refine s_val hS (by decide) rfl rfl (r_move hS rfl) ?_; clear hS; intro a hS
  refine s_val hS (by decide) rfl rfl (r_partS hS (show ev _ _ = some (SV zeros64) from rfl) rfl ⟨_, rfl⟩ Tryd.underlying9 (by decide) (by decide)) ?_; clear hS; intro a hS
  refine s_val hS (by decide) rfl rfl (r_assign hS rfl) ?_; clear hS; intro a hS
  refine s_nil ?_
  refine k_seq ?_
  refine c_ret ?_
  refine k_inr ?_
  refine k_inr ?_
  refine k_thenr ?_
  exact k_res1 hS rfl (RV.tmp rfl) ⟨rfl, hM.done trivial⟩

set_option maxRecDepth 100000 in
theorem rep3_ok (w0 : World) : Pure Tryd.prog 38 #[SV [48], N 3] w0 (SV [48, 48, 48]) := by
  refine ⟨by kernel_rfl, ?_⟩
  refine calls_sym Tryd.func38 rfl (by kernel_rfl) ?_
  intro a hS
  have hM : Mem w0 w0 [] := Mem.refl w0
  refine c_seq ?_
  refine c_region ?_
  refine s_val hS (by decide) rfl rfl (r_assign hS (show ev _ _ = some (SV []) from rfl)) ?_; clear hS; intro a hS
  refine s_nil ?_
  refine k_seq ?_
  refine c_seq ?_
  refine c_seq ?_
  refine c_region ?_
  refine s_val hS (by decide) rfl rfl (r_move hS rfl) ?_; clear hS; intro a hS
  refine s_nil ?_
  refine k_seq ?_
  refine c_block ?_
  refine c_seq ?_
  refine c_region ?_
  refine s_val hS (by decide) rfl rfl (r_bv hS rfl (show ev _ _ = some (N 0) from rfl) gN (b_eqlN _ _ _)) ?_; clear hS; intro a hS
  refine s_val hS (by decide) rfl rfl (r_assign hS rfl) ?_; clear hS; intro a hS
  refine s_nil ?_
  refine k_seq ?_
  refine c_false hS rfl rfl ?_
  refine c_seq ?_
  refine c_region ?_
  refine s_val hS (by decide) rfl rfl (r_bv hS rfl (show ev _ _ = some (N 1) from rfl) gN (b_eqlN _ _ _)) ?_; clear hS; intro a hS
  refine s_val hS (by decide) rfl rfl (r_assign hS rfl) ?_; clear hS; intro a hS
  refine s_nil ?_
  refine k_seq ?_
  refine c_false hS rfl rfl ?_
  refine c_skip ?_
  refine k_in ?_
  refine k_seq ?_
  refine c_seq ?_
  refine c_seq ?_
  refine c_region ?_
  refine s_val hS (by decide) rfl rfl (r_move hS rfl) ?_; clear hS; intro a hS
  refine s_val hS (by decide) rfl rfl (r_bv hS rfl (show ev _ _ = some (N 0) from rfl) gN (b_lssN _ _ _)) ?_; clear hS; intro a hS
  refine s_nil ?_
  refine k_seq ?_
  refine c_false hS rfl rfl ?_
  refine c_skip ?_
  refine k_seq ?_
  refine c_seq ?_
  refine c_region ?_
  refine s_val hS (by decide) rfl rfl (r_move hS rfl) ?_; clear hS; intro a hS
  refine s_val hS (by decide) rfl rfl (r_lenS hS rfl Tryd.underlying9) ?_; clear hS; intro a hS
  refine s_val hS (by decide) rfl rfl (r_conv hS rfl (by kernel_rfl) Tryd.underlying51 (cv_NU _)) ?_; clear hS; intro a hS
  refine s_val hS (by decide) rfl rfl (r_move hS rfl) ?_; clear hS; intro a hS
  refine s_val hS (by decide) rfl rfl (r_conv hS rfl (by kernel_rfl) Tryd.underlying51 (cv_NU _)) ?_; clear hS; intro a hS
  refine s_pure hS hM (by decide) rfl (mul_3 _) ?_; clear hS hM; intro a w hS hM
  refine s_val hS (by decide) rfl rfl (r_move hS rfl) ?_; clear hS; intro a hS
  refine s_val hS (by decide) rfl rfl (r_extract hS rfl rfl) ?_; clear hS; intro a hS
  refine s_val hS (by decide) rfl rfl (r_extract hS rfl rfl) ?_; clear hS; intro a hS
  refine s_val hS (by decide) rfl rfl (r_assign hS rfl) ?_; clear hS; intro a hS
  refine s_val hS (by decide) rfl rfl (r_assign hS rfl) ?_; clear hS; intro a hS
  refine s_nil ?_
  refine k_seq ?_
  refine c_seq ?_
  refine c_seq ?_
  refine c_region ?_
  refine s_val hS (by decide) rfl rfl (r_move hS rfl) ?_; clear hS; intro a hS
  refine s_val hS (by decide) rfl rfl (r_bv hS rfl (show ev _ _ = some (U 0#64) from rfl) gU (b_gtrU _ _ _)) ?_; clear hS; intro a hS
  refine s_val hS (by decide) rfl rfl (r_move hS rfl) ?_; clear hS; intro a hS
  refine s_valg hS (by decide) rfl rfl rfl rfl rfl (r_move hS rfl) ?_; clear hS; intro a hS
  refine s_valg hS (by decide) rfl rfl rfl rfl rfl (r_bv hS rfl (show ev _ _ = some (U 9223372036854775807#64) from rfl) gU (b_gtrU _ _ _)) ?_; clear hS; intro a hS
  refine s_val hS (by decide) rfl rfl (r_pick hS rfl rfl) ?_; clear hS; intro a hS
  refine s_nil ?_
  refine k_seq ?_
  refine c_false hS rfl rfl ?_
  refine c_skip ?_
  refine k_seq ?_
  refine c_seq ?_
  refine c_region ?_
  refine s_val hS (by decide) rfl rfl (r_move hS rfl) ?_; clear hS; intro a hS
  refine s_val hS (by decide) rfl rfl (r_conv hS rfl (by kernel_rfl) Tryd.underlying3 (show _ = N 3 from rfl)) ?_; clear hS; intro a hS
  refine s_val hS (by decide) rfl rfl (r_assign hS rfl) ?_; clear hS; intro a hS
  refine s_nil ?_
  refine k_seq ?_
  refine c_seq ?_
  refine c_seq ?_
  refine c_region ?_
  refine s_val hS (by decide) rfl rfl (r_move hS rfl) ?_; clear hS; intro a hS
  refine s_val hS (by decide) rfl rfl (r_lenS hS rfl Tryd.underlying9) ?_; clear hS; intro a hS
  refine s_val hS (by decide) rfl rfl (r_bv hS rfl (show ev _ _ = some (N 0) from rfl) gN (b_eqlN _ _ _)) ?_; clear hS; intro a hS
  refine s_nil ?_
  refine k_seq ?_
  refine c_false hS rfl rfl ?_
  refine c_skip ?_
  refine k_seq ?_
  refine c_seq ?_
  refine c_seq ?_
  refine c_region ?_
  refine s_val hS (by decide) rfl rfl (r_move hS rfl) ?_; clear hS; intro a hS
  refine s_val hS (by decide) rfl rfl (r_idxS hS rfl (show ev _ _ = some (.int .i64 ((0 : Nat) : Int)) from rfl) Tryd.underlying9 (c := 48#8) rfl) ?_; clear hS; intro a hS
  refine s_nil ?_
  refine k_seq ?_
  refine c_block ?_
  refine c_seq ?_
  refine c_seq ?_
  refine c_region ?_
  refine s_val hS (by decide) rfl rfl (r_bv hS rfl (show ev _ _ = some (B 32#8) from rfl) gB (b_eqlB _ _ _)) ?_; clear hS; intro a hS
  refine s_val hS (by decide) rfl rfl (r_assign hS rfl) ?_; clear hS; intro a hS
  refine s_nil ?_
  refine k_seq ?_
  refine c_false hS rfl rfl ?_
  refine c_seq ?_
  refine c_region ?_
  refine s_val hS (by decide) rfl rfl (r_bv hS rfl (show ev _ _ = some (B 45#8) from rfl) gB (b_eqlB _ _ _)) ?_; clear hS; intro a hS
  refine s_val hS (by decide) rfl rfl (r_assign hS rfl) ?_; clear hS; intro a hS
  refine s_nil ?_
  refine k_seq ?_
  refine c_false hS rfl rfl ?_
  refine c_seq ?_
  refine c_region ?_
  refine s_val hS (by decide) rfl rfl (r_bv hS rfl (show ev _ _ = some (B 48#8) from rfl) gB (b_eqlB _ _ _)) ?_; clear hS; intro a hS
  refine s_val hS (by decide) rfl rfl (r_assign hS rfl) ?_; clear hS; intro a hS
  refine s_nil ?_
  refine k_seq ?_
  refine c_true hS rfl rfl ?_
  refine c_skip ?_
  refine k_seq ?_
  refine c_true hS rfl rfl ?_
  refine c_block ?_
  refine c_seq ?_
  refine c_region ?_
  refine s_val hS (by decide) rfl rfl (r_move hS rfl) ?_; clear hS; intro a hS
  refine s_val hS (by decide) rfl rfl (r_bv hS rfl (show ev _ _ = some (N 128) from rfl) gN (b_leqN _ _ _)) ?_; clear hS; intro a hS
  refine s_val hS (by decide) rfl rfl (r_move hS rfl) ?_; clear hS; intro a hS
  refine s_valg hS (by decide) rfl rfl rfl rfl rfl (r_move hS rfl) ?_; clear hS; intro a hS
  refine s_pureg hS hM (by decide) (vs := [SV spaces, _]) rfl rfl rfl rfl (h42_spaces _) ?_; clear hS hM; intro a w hS hM
  refine s_val hS (by decide) rfl rfl (r_pick hS rfl rfl) ?_; clear hS; intro a hS
  refine s_val hS (by decide) rfl rfl (r_assign hS rfl) ?_; clear hS; intro a hS
  refine s_nil ?_
  refine k_seq ?_
  refine c_false hS rfl rfl ?_
  refine c_seq ?_
  refine c_region ?_
  refine s_val hS (by decide) rfl rfl (r_move hS rfl) ?_; clear hS; intro a hS
  refine s_val hS (by decide) rfl rfl (r_bv hS rfl (show ev _ _ = some (N 128) from rfl) gN (b_leqN _ _ _)) ?_; clear hS; intro a hS
  refine s_val hS (by decide) rfl rfl (r_move hS rfl) ?_; clear hS; intro a hS
  refine s_valg hS (by decide) rfl rfl rfl rfl rfl (r_move hS rfl) ?_; clear hS; intro a hS
  refine s_pureg hS hM (by decide) (vs := [SV dashes, _]) rfl rfl rfl rfl (h42_dashes _) ?_; clear hS hM; intro a w hS hM
  refine s_val hS (by decide) rfl rfl (r_pick hS rfl rfl) ?_; clear hS; intro a hS
  refine s_val hS (by decide) rfl rfl (r_assign hS rfl) ?_; clear hS; intro a hS
  refine s_nil ?_
  refine k_seq ?_
  refine c_false hS rfl rfl ?_
  refine c_seq ?_
  refine c_region ?_
  refine s_val hS (by decide) rfl rfl (r_move hS rfl) ?_; clear hS; intro a hS
  refine s_val hS (by decide) rfl rfl (r_bv hS rfl (show ev _ _ = some (N 64) from rfl) gN (b_leqN _ _ _)) ?_; clear hS; intro a hS
  refine s_val hS (by decide) rfl rfl (r_move hS rfl) ?_; clear hS; intro a hS
  refine s_valg hS (by decide) rfl rfl rfl rfl rfl (r_move hS rfl) ?_; clear hS; intro a hS
  refine s_pureg hS hM (by decide) (vs := [SV zeros64, _]) rfl rfl rfl rfl (h42_zeros64 _) ?_; clear hS hM; intro a w hS hM
  refine s_val hS (by decide) rfl rfl (r_pick hS rfl rfl) ?_; clear hS; intro a hS
  refine s_val hS (by decide) rfl rfl (r_assign hS rfl) ?_; clear hS; intro a hS
  refine s_nil ?_
  refine k_seq ?_
  refine c_true hS rfl rfl ?_
  refine c_seq ?_
  refine c_region ?_
  refine s_val hS (by decide) rfl rfl (r_move hS rfl) ?_; clear hS; intro a hS
  refine s_val hS (by decide) rfl rfl (r_partS hS (show ev _ _ = some (SV zeros64) from rfl) rfl ⟨_, rfl⟩ Tryd.underlying9 (by decide) (by decide)) ?_; clear hS; intro a hS
  refine s_val hS (by decide) rfl rfl (r_assign hS rfl) ?_; clear hS; intro a hS
  refine s_nil ?_
  refine k_seq ?_
  refine c_ret ?_
  refine k_inr ?_
  refine k_inr ?_
  refine k_thenr ?_
  exact k_res1 hS rfl (RV.tmp rfl) ⟨rfl, hM.done trivial⟩
end Go.Proofs.YtbfiaoemoookcaaDoor
