/- The walks of the library's decimal print. Printed by a program of mine (walk.py). -/
import Derived.Test.YtbfiaoemoookcaaDoorGord
import Derived.Test.YtbfiaoemoookcaaDoorGdig
namespace Go.Proofs.YtbfiaoemoookcaaDoor
open Go Go.Sym
attribute [local irreducible] dsF blen nd

theorem sz5 : (Tryd.prog.info? 5).map (·.size) = some 1 := by kernel_rfl
theorem sz42 : (Tryd.prog.info? 42).map (·.size) = some 1 := by kernel_rfl

set_option maxRecDepth 100000 in
theorem len64_ok (w0 : World) (n : Nat) (hn : n < 18446744073709551616) : Pure Tryd.prog 57 #[X n] w0 (N (blen n)) := by
  refine ⟨by kernel_rfl, ?_⟩
  refine calls_sym Tryd.func57 rfl (by kernel_rfl) ?_
  intro a hS
  have hM : Mem w0 w0 [] := Mem.refl w0
  refine c_seq ?_
  refine c_region ?_
  refine s_val hS (by decide) rfl rfl (r_assign hS (show ev _ _ = some (N 0) from rfl)) ?_; clear hS; intro a hS
  refine s_nil ?_
  refine k_seq ?_
  refine c_seq ?_
  refine c_seq ?_
  refine c_region ?_
  refine s_val hS (by decide) rfl rfl (r_move hS rfl) ?_; clear hS; intro a hS
  refine s_val hS (by decide) rfl rfl (r_bv hS rfl (show ev _ _ = some (X 4294967296) from rfl) gX (b_geqX _ _ _)) ?_; clear hS; intro a hS
  refine s_nil ?_
  refine k_seq ?_
  refine c_cond hS rfl (fun hc => ?_) (fun hc => ?_)
  · have h1 := of_decide_eq_true hc
    refine c_seq ?_
    refine c_region ?_
    refine s_val hS (by decide) rfl rfl (r_move hS rfl) ?_; clear hS; intro a hS
    refine s_val hS (by decide) rfl rfl (r_bv hS rfl (show ev _ _ = some (.int .u64 ((32 : Nat) : Int)) from rfl) gX (b_shrX _ _ 32 4294967296 (by decide) (by omega))) ?_; clear hS; intro a hS
    refine s_val hS (by decide) rfl rfl (r_assign hS rfl) ?_; clear hS; intro a hS
    refine s_nil ?_
    refine k_seq ?_
    refine c_region ?_
    refine s_val hS (by decide) rfl rfl (r_assign hS (show ev _ _ = some (N 32) from rfl)) ?_; clear hS; intro a hS
    refine s_nil ?_
    refine k_seq ?_
    refine c_seq ?_
    refine c_seq ?_
    refine c_region ?_
    refine s_val hS (by decide) rfl rfl (r_move hS rfl) ?_; clear hS; intro a hS
    refine s_val hS (by decide) rfl rfl (r_bv hS rfl (show ev _ _ = some (X 65536) from rfl) gX (b_geqX _ _ _)) ?_; clear hS; intro a hS
    refine s_nil ?_
    refine k_seq ?_
    refine c_cond hS rfl (fun hc => ?_) (fun hc => ?_)
    · have h2 := of_decide_eq_true hc
      refine c_seq ?_
      refine c_region ?_
      refine s_val hS (by decide) rfl rfl (r_move hS rfl) ?_; clear hS; intro a hS
      refine s_val hS (by decide) rfl rfl (r_bv hS rfl (show ev _ _ = some (.int .u64 ((16 : Nat) : Int)) from rfl) gX (b_shrX _ _ 16 65536 (by decide) (by omega))) ?_; clear hS; intro a hS
      refine s_val hS (by decide) rfl rfl (r_assign hS rfl) ?_; clear hS; intro a hS
      refine s_nil ?_
      refine k_seq ?_
      refine c_region ?_
      refine s_val hS (by decide) rfl rfl (r_move hS rfl) ?_; clear hS; intro a hS
      refine s_val hS (by decide) rfl rfl (r_bv hS rfl (show ev _ _ = some (N 16) from rfl) gN (b_addN _ _ _ (by omega))) ?_; clear hS; intro a hS
      refine s_val hS (by decide) rfl rfl (r_assign hS rfl) ?_; clear hS; intro a hS
      refine s_nil ?_
      refine k_seq ?_
      refine c_seq ?_
      refine c_seq ?_
      refine c_region ?_
      refine s_val hS (by decide) rfl rfl (r_move hS rfl) ?_; clear hS; intro a hS
      refine s_val hS (by decide) rfl rfl (r_bv hS rfl (show ev _ _ = some (X 256) from rfl) gX (b_geqX _ _ _)) ?_; clear hS; intro a hS
      refine s_nil ?_
      refine k_seq ?_
      refine c_cond hS rfl (fun hc => ?_) (fun hc => ?_)
      · have h3 := of_decide_eq_true hc
        refine c_seq ?_
        refine c_region ?_
        refine s_val hS (by decide) rfl rfl (r_move hS rfl) ?_; clear hS; intro a hS
        refine s_val hS (by decide) rfl rfl (r_bv hS rfl (show ev _ _ = some (.int .u64 ((8 : Nat) : Int)) from rfl) gX (b_shrX _ _ 8 256 (by decide) (by omega))) ?_; clear hS; intro a hS
        refine s_val hS (by decide) rfl rfl (r_assign hS rfl) ?_; clear hS; intro a hS
        refine s_nil ?_
        refine k_seq ?_
        refine c_region ?_
        refine s_val hS (by decide) rfl rfl (r_move hS rfl) ?_; clear hS; intro a hS
        refine s_val hS (by decide) rfl rfl (r_bv hS rfl (show ev _ _ = some (N 8) from rfl) gN (b_addN _ _ _ (by omega))) ?_; clear hS; intro a hS
        refine s_val hS (by decide) rfl rfl (r_assign hS rfl) ?_; clear hS; intro a hS
        refine s_nil ?_
        refine k_seq ?_
        refine c_seq ?_
        refine c_region ?_
        refine s_val hS (by decide) rfl rfl (r_move hS rfl) ?_; clear hS; intro a hS
        refine s_val hS (by decide) rfl rfl (r_move hS rfl) ?_; clear hS; intro a hS
        refine s_val hS (by decide) rfl rfl (r_conv hS rfl (by kernel_rfl) Tryd.underlying5 (cv_XB _)) ?_; clear hS; intro a hS
        refine s_val hS (by decide) rfl rfl (r_idxS hS (show ev _ _ = some (SV len8) from rfl) rfl Tryd.underlying9 (len8_byte (by omega))) ?_; clear hS; intro a hS
        refine s_val hS (by decide) rfl rfl (r_conv hS rfl (by kernel_rfl) Tryd.underlying3 (cv_BN' _ (blen_byte (by omega)))) ?_; clear hS; intro a hS
        refine s_val hS (by decide) rfl rfl (r_bv hS rfl rfl gN (b_addN _ _ _ (add_small (by decide) (blen_byte (by omega))))) ?_; clear hS; intro a hS
        refine s_val hS (by decide) rfl rfl (r_assign hS rfl) ?_; clear hS; intro a hS
        refine s_nil ?_
        refine k_seq ?_
        refine c_ret ?_
        exact k_res1 hS rfl (RV.tmp rfl) ⟨(congrArg (fun q => Ending.returned (N q)) (by first | exact blen_eq (s := 56) (D := 72057594037927936) (by decide) (by omega) (by omega) | exact blen_eq (s := 48) (D := 281474976710656) (by decide) (by omega) (by omega) | exact blen_eq (s := 40) (D := 1099511627776) (by decide) (by omega) (by omega) | exact blen_eq (s := 32) (D := 4294967296) (by decide) (by omega) (by omega) | exact blen_eq (s := 24) (D := 16777216) (by decide) (by omega) (by omega) | exact blen_eq (s := 16) (D := 65536) (by decide) (by omega) (by omega) | exact blen_eq (s := 8) (D := 256) (by decide) (by omega) (by omega) | exact blen_eq (s := 0) (D := 1) (by decide) (by omega) (by omega))), hM.done trivial⟩
      · have h3 := of_decide_eq_false hc
        refine c_skip ?_
        refine k_seq ?_
        refine c_seq ?_
        refine c_region ?_
        refine s_val hS (by decide) rfl rfl (r_move hS rfl) ?_; clear hS; intro a hS
        refine s_val hS (by decide) rfl rfl (r_move hS rfl) ?_; clear hS; intro a hS
        refine s_val hS (by decide) rfl rfl (r_conv hS rfl (by kernel_rfl) Tryd.underlying5 (cv_XB _)) ?_; clear hS; intro a hS
        refine s_val hS (by decide) rfl rfl (r_idxS hS (show ev _ _ = some (SV len8) from rfl) rfl Tryd.underlying9 (len8_byte (by omega))) ?_; clear hS; intro a hS
        refine s_val hS (by decide) rfl rfl (r_conv hS rfl (by kernel_rfl) Tryd.underlying3 (cv_BN' _ (blen_byte (by omega)))) ?_; clear hS; intro a hS
        refine s_val hS (by decide) rfl rfl (r_bv hS rfl rfl gN (b_addN _ _ _ (add_small (by decide) (blen_byte (by omega))))) ?_; clear hS; intro a hS
        refine s_val hS (by decide) rfl rfl (r_assign hS rfl) ?_; clear hS; intro a hS
        refine s_nil ?_
        refine k_seq ?_
        refine c_ret ?_
        exact k_res1 hS rfl (RV.tmp rfl) ⟨(congrArg (fun q => Ending.returned (N q)) (by first | exact blen_eq (s := 56) (D := 72057594037927936) (by decide) (by omega) (by omega) | exact blen_eq (s := 48) (D := 281474976710656) (by decide) (by omega) (by omega) | exact blen_eq (s := 40) (D := 1099511627776) (by decide) (by omega) (by omega) | exact blen_eq (s := 32) (D := 4294967296) (by decide) (by omega) (by omega) | exact blen_eq (s := 24) (D := 16777216) (by decide) (by omega) (by omega) | exact blen_eq (s := 16) (D := 65536) (by decide) (by omega) (by omega) | exact blen_eq (s := 8) (D := 256) (by decide) (by omega) (by omega) | exact blen_eq (s := 0) (D := 1) (by decide) (by omega) (by omega))), hM.done trivial⟩
    · have h2 := of_decide_eq_false hc
      refine c_skip ?_
      refine k_seq ?_
      refine c_seq ?_
      refine c_seq ?_
      refine c_region ?_
      refine s_val hS (by decide) rfl rfl (r_move hS rfl) ?_; clear hS; intro a hS
      refine s_val hS (by decide) rfl rfl (r_bv hS rfl (show ev _ _ = some (X 256) from rfl) gX (b_geqX _ _ _)) ?_; clear hS; intro a hS
      refine s_nil ?_
      refine k_seq ?_
      refine c_cond hS rfl (fun hc => ?_) (fun hc => ?_)
      · have h3 := of_decide_eq_true hc
        refine c_seq ?_
        refine c_region ?_
        refine s_val hS (by decide) rfl rfl (r_move hS rfl) ?_; clear hS; intro a hS
        refine s_val hS (by decide) rfl rfl (r_bv hS rfl (show ev _ _ = some (.int .u64 ((8 : Nat) : Int)) from rfl) gX (b_shrX _ _ 8 256 (by decide) (by omega))) ?_; clear hS; intro a hS
        refine s_val hS (by decide) rfl rfl (r_assign hS rfl) ?_; clear hS; intro a hS
        refine s_nil ?_
        refine k_seq ?_
        refine c_region ?_
        refine s_val hS (by decide) rfl rfl (r_move hS rfl) ?_; clear hS; intro a hS
        refine s_val hS (by decide) rfl rfl (r_bv hS rfl (show ev _ _ = some (N 8) from rfl) gN (b_addN _ _ _ (by omega))) ?_; clear hS; intro a hS
        refine s_val hS (by decide) rfl rfl (r_assign hS rfl) ?_; clear hS; intro a hS
        refine s_nil ?_
        refine k_seq ?_
        refine c_seq ?_
        refine c_region ?_
        refine s_val hS (by decide) rfl rfl (r_move hS rfl) ?_; clear hS; intro a hS
        refine s_val hS (by decide) rfl rfl (r_move hS rfl) ?_; clear hS; intro a hS
        refine s_val hS (by decide) rfl rfl (r_conv hS rfl (by kernel_rfl) Tryd.underlying5 (cv_XB _)) ?_; clear hS; intro a hS
        refine s_val hS (by decide) rfl rfl (r_idxS hS (show ev _ _ = some (SV len8) from rfl) rfl Tryd.underlying9 (len8_byte (by omega))) ?_; clear hS; intro a hS
        refine s_val hS (by decide) rfl rfl (r_conv hS rfl (by kernel_rfl) Tryd.underlying3 (cv_BN' _ (blen_byte (by omega)))) ?_; clear hS; intro a hS
        refine s_val hS (by decide) rfl rfl (r_bv hS rfl rfl gN (b_addN _ _ _ (add_small (by decide) (blen_byte (by omega))))) ?_; clear hS; intro a hS
        refine s_val hS (by decide) rfl rfl (r_assign hS rfl) ?_; clear hS; intro a hS
        refine s_nil ?_
        refine k_seq ?_
        refine c_ret ?_
        exact k_res1 hS rfl (RV.tmp rfl) ⟨(congrArg (fun q => Ending.returned (N q)) (by first | exact blen_eq (s := 56) (D := 72057594037927936) (by decide) (by omega) (by omega) | exact blen_eq (s := 48) (D := 281474976710656) (by decide) (by omega) (by omega) | exact blen_eq (s := 40) (D := 1099511627776) (by decide) (by omega) (by omega) | exact blen_eq (s := 32) (D := 4294967296) (by decide) (by omega) (by omega) | exact blen_eq (s := 24) (D := 16777216) (by decide) (by omega) (by omega) | exact blen_eq (s := 16) (D := 65536) (by decide) (by omega) (by omega) | exact blen_eq (s := 8) (D := 256) (by decide) (by omega) (by omega) | exact blen_eq (s := 0) (D := 1) (by decide) (by omega) (by omega))), hM.done trivial⟩
      · have h3 := of_decide_eq_false hc
        refine c_skip ?_
        refine k_seq ?_
        refine c_seq ?_
        refine c_region ?_
        refine s_val hS (by decide) rfl rfl (r_move hS rfl) ?_; clear hS; intro a hS
        refine s_val hS (by decide) rfl rfl (r_move hS rfl) ?_; clear hS; intro a hS
        refine s_val hS (by decide) rfl rfl (r_conv hS rfl (by kernel_rfl) Tryd.underlying5 (cv_XB _)) ?_; clear hS; intro a hS
        refine s_val hS (by decide) rfl rfl (r_idxS hS (show ev _ _ = some (SV len8) from rfl) rfl Tryd.underlying9 (len8_byte (by omega))) ?_; clear hS; intro a hS
        refine s_val hS (by decide) rfl rfl (r_conv hS rfl (by kernel_rfl) Tryd.underlying3 (cv_BN' _ (blen_byte (by omega)))) ?_; clear hS; intro a hS
        refine s_val hS (by decide) rfl rfl (r_bv hS rfl rfl gN (b_addN _ _ _ (add_small (by decide) (blen_byte (by omega))))) ?_; clear hS; intro a hS
        refine s_val hS (by decide) rfl rfl (r_assign hS rfl) ?_; clear hS; intro a hS
        refine s_nil ?_
        refine k_seq ?_
        refine c_ret ?_
        exact k_res1 hS rfl (RV.tmp rfl) ⟨(congrArg (fun q => Ending.returned (N q)) (by first | exact blen_eq (s := 56) (D := 72057594037927936) (by decide) (by omega) (by omega) | exact blen_eq (s := 48) (D := 281474976710656) (by decide) (by omega) (by omega) | exact blen_eq (s := 40) (D := 1099511627776) (by decide) (by omega) (by omega) | exact blen_eq (s := 32) (D := 4294967296) (by decide) (by omega) (by omega) | exact blen_eq (s := 24) (D := 16777216) (by decide) (by omega) (by omega) | exact blen_eq (s := 16) (D := 65536) (by decide) (by omega) (by omega) | exact blen_eq (s := 8) (D := 256) (by decide) (by omega) (by omega) | exact blen_eq (s := 0) (D := 1) (by decide) (by omega) (by omega))), hM.done trivial⟩
  · have h1 := of_decide_eq_false hc
    refine c_skip ?_
    refine k_seq ?_
    refine c_seq ?_
    refine c_seq ?_
    refine c_region ?_
    refine s_val hS (by decide) rfl rfl (r_move hS rfl) ?_; clear hS; intro a hS
    refine s_val hS (by decide) rfl rfl (r_bv hS rfl (show ev _ _ = some (X 65536) from rfl) gX (b_geqX _ _ _)) ?_; clear hS; intro a hS
    refine s_nil ?_
    refine k_seq ?_
    refine c_cond hS rfl (fun hc => ?_) (fun hc => ?_)
    · have h2 := of_decide_eq_true hc
      refine c_seq ?_
      refine c_region ?_
      refine s_val hS (by decide) rfl rfl (r_move hS rfl) ?_; clear hS; intro a hS
      refine s_val hS (by decide) rfl rfl (r_bv hS rfl (show ev _ _ = some (.int .u64 ((16 : Nat) : Int)) from rfl) gX (b_shrX _ _ 16 65536 (by decide) (by omega))) ?_; clear hS; intro a hS
      refine s_val hS (by decide) rfl rfl (r_assign hS rfl) ?_; clear hS; intro a hS
      refine s_nil ?_
      refine k_seq ?_
      refine c_region ?_
      refine s_val hS (by decide) rfl rfl (r_move hS rfl) ?_; clear hS; intro a hS
      refine s_val hS (by decide) rfl rfl (r_bv hS rfl (show ev _ _ = some (N 16) from rfl) gN (b_addN _ _ _ (by omega))) ?_; clear hS; intro a hS
      refine s_val hS (by decide) rfl rfl (r_assign hS rfl) ?_; clear hS; intro a hS
      refine s_nil ?_
      refine k_seq ?_
      refine c_seq ?_
      refine c_seq ?_
      refine c_region ?_
      refine s_val hS (by decide) rfl rfl (r_move hS rfl) ?_; clear hS; intro a hS
      refine s_val hS (by decide) rfl rfl (r_bv hS rfl (show ev _ _ = some (X 256) from rfl) gX (b_geqX _ _ _)) ?_; clear hS; intro a hS
      refine s_nil ?_
      refine k_seq ?_
      refine c_cond hS rfl (fun hc => ?_) (fun hc => ?_)
      · have h3 := of_decide_eq_true hc
        refine c_seq ?_
        refine c_region ?_
        refine s_val hS (by decide) rfl rfl (r_move hS rfl) ?_; clear hS; intro a hS
        refine s_val hS (by decide) rfl rfl (r_bv hS rfl (show ev _ _ = some (.int .u64 ((8 : Nat) : Int)) from rfl) gX (b_shrX _ _ 8 256 (by decide) (by omega))) ?_; clear hS; intro a hS
        refine s_val hS (by decide) rfl rfl (r_assign hS rfl) ?_; clear hS; intro a hS
        refine s_nil ?_
        refine k_seq ?_
        refine c_region ?_
        refine s_val hS (by decide) rfl rfl (r_move hS rfl) ?_; clear hS; intro a hS
        refine s_val hS (by decide) rfl rfl (r_bv hS rfl (show ev _ _ = some (N 8) from rfl) gN (b_addN _ _ _ (by omega))) ?_; clear hS; intro a hS
        refine s_val hS (by decide) rfl rfl (r_assign hS rfl) ?_; clear hS; intro a hS
        refine s_nil ?_
        refine k_seq ?_
        refine c_seq ?_
        refine c_region ?_
        refine s_val hS (by decide) rfl rfl (r_move hS rfl) ?_; clear hS; intro a hS
        refine s_val hS (by decide) rfl rfl (r_move hS rfl) ?_; clear hS; intro a hS
        refine s_val hS (by decide) rfl rfl (r_conv hS rfl (by kernel_rfl) Tryd.underlying5 (cv_XB _)) ?_; clear hS; intro a hS
        refine s_val hS (by decide) rfl rfl (r_idxS hS (show ev _ _ = some (SV len8) from rfl) rfl Tryd.underlying9 (len8_byte (by omega))) ?_; clear hS; intro a hS
        refine s_val hS (by decide) rfl rfl (r_conv hS rfl (by kernel_rfl) Tryd.underlying3 (cv_BN' _ (blen_byte (by omega)))) ?_; clear hS; intro a hS
        refine s_val hS (by decide) rfl rfl (r_bv hS rfl rfl gN (b_addN _ _ _ (add_small (by decide) (blen_byte (by omega))))) ?_; clear hS; intro a hS
        refine s_val hS (by decide) rfl rfl (r_assign hS rfl) ?_; clear hS; intro a hS
        refine s_nil ?_
        refine k_seq ?_
        refine c_ret ?_
        exact k_res1 hS rfl (RV.tmp rfl) ⟨(congrArg (fun q => Ending.returned (N q)) (by first | exact blen_eq (s := 56) (D := 72057594037927936) (by decide) (by omega) (by omega) | exact blen_eq (s := 48) (D := 281474976710656) (by decide) (by omega) (by omega) | exact blen_eq (s := 40) (D := 1099511627776) (by decide) (by omega) (by omega) | exact blen_eq (s := 32) (D := 4294967296) (by decide) (by omega) (by omega) | exact blen_eq (s := 24) (D := 16777216) (by decide) (by omega) (by omega) | exact blen_eq (s := 16) (D := 65536) (by decide) (by omega) (by omega) | exact blen_eq (s := 8) (D := 256) (by decide) (by omega) (by omega) | exact blen_eq (s := 0) (D := 1) (by decide) (by omega) (by omega))), hM.done trivial⟩
      · have h3 := of_decide_eq_false hc
        refine c_skip ?_
        refine k_seq ?_
        refine c_seq ?_
        refine c_region ?_
        refine s_val hS (by decide) rfl rfl (r_move hS rfl) ?_; clear hS; intro a hS
        refine s_val hS (by decide) rfl rfl (r_move hS rfl) ?_; clear hS; intro a hS
        refine s_val hS (by decide) rfl rfl (r_conv hS rfl (by kernel_rfl) Tryd.underlying5 (cv_XB _)) ?_; clear hS; intro a hS
        refine s_val hS (by decide) rfl rfl (r_idxS hS (show ev _ _ = some (SV len8) from rfl) rfl Tryd.underlying9 (len8_byte (by omega))) ?_; clear hS; intro a hS
        refine s_val hS (by decide) rfl rfl (r_conv hS rfl (by kernel_rfl) Tryd.underlying3 (cv_BN' _ (blen_byte (by omega)))) ?_; clear hS; intro a hS
        refine s_val hS (by decide) rfl rfl (r_bv hS rfl rfl gN (b_addN _ _ _ (add_small (by decide) (blen_byte (by omega))))) ?_; clear hS; intro a hS
        refine s_val hS (by decide) rfl rfl (r_assign hS rfl) ?_; clear hS; intro a hS
        refine s_nil ?_
        refine k_seq ?_
        refine c_ret ?_
        exact k_res1 hS rfl (RV.tmp rfl) ⟨(congrArg (fun q => Ending.returned (N q)) (by first | exact blen_eq (s := 56) (D := 72057594037927936) (by decide) (by omega) (by omega) | exact blen_eq (s := 48) (D := 281474976710656) (by decide) (by omega) (by omega) | exact blen_eq (s := 40) (D := 1099511627776) (by decide) (by omega) (by omega) | exact blen_eq (s := 32) (D := 4294967296) (by decide) (by omega) (by omega) | exact blen_eq (s := 24) (D := 16777216) (by decide) (by omega) (by omega) | exact blen_eq (s := 16) (D := 65536) (by decide) (by omega) (by omega) | exact blen_eq (s := 8) (D := 256) (by decide) (by omega) (by omega) | exact blen_eq (s := 0) (D := 1) (by decide) (by omega) (by omega))), hM.done trivial⟩
    · have h2 := of_decide_eq_false hc
      refine c_skip ?_
      refine k_seq ?_
      refine c_seq ?_
      refine c_seq ?_
      refine c_region ?_
      refine s_val hS (by decide) rfl rfl (r_move hS rfl) ?_; clear hS; intro a hS
      refine s_val hS (by decide) rfl rfl (r_bv hS rfl (show ev _ _ = some (X 256) from rfl) gX (b_geqX _ _ _)) ?_; clear hS; intro a hS
      refine s_nil ?_
      refine k_seq ?_
      refine c_cond hS rfl (fun hc => ?_) (fun hc => ?_)
      · have h3 := of_decide_eq_true hc
        refine c_seq ?_
        refine c_region ?_
        refine s_val hS (by decide) rfl rfl (r_move hS rfl) ?_; clear hS; intro a hS
        refine s_val hS (by decide) rfl rfl (r_bv hS rfl (show ev _ _ = some (.int .u64 ((8 : Nat) : Int)) from rfl) gX (b_shrX _ _ 8 256 (by decide) (by omega))) ?_; clear hS; intro a hS
        refine s_val hS (by decide) rfl rfl (r_assign hS rfl) ?_; clear hS; intro a hS
        refine s_nil ?_
        refine k_seq ?_
        refine c_region ?_
        refine s_val hS (by decide) rfl rfl (r_move hS rfl) ?_; clear hS; intro a hS
        refine s_val hS (by decide) rfl rfl (r_bv hS rfl (show ev _ _ = some (N 8) from rfl) gN (b_addN _ _ _ (by omega))) ?_; clear hS; intro a hS
        refine s_val hS (by decide) rfl rfl (r_assign hS rfl) ?_; clear hS; intro a hS
        refine s_nil ?_
        refine k_seq ?_
        refine c_seq ?_
        refine c_region ?_
        refine s_val hS (by decide) rfl rfl (r_move hS rfl) ?_; clear hS; intro a hS
        refine s_val hS (by decide) rfl rfl (r_move hS rfl) ?_; clear hS; intro a hS
        refine s_val hS (by decide) rfl rfl (r_conv hS rfl (by kernel_rfl) Tryd.underlying5 (cv_XB _)) ?_; clear hS; intro a hS
        refine s_val hS (by decide) rfl rfl (r_idxS hS (show ev _ _ = some (SV len8) from rfl) rfl Tryd.underlying9 (len8_byte (by omega))) ?_; clear hS; intro a hS
        refine s_val hS (by decide) rfl rfl (r_conv hS rfl (by kernel_rfl) Tryd.underlying3 (cv_BN' _ (blen_byte (by omega)))) ?_; clear hS; intro a hS
        refine s_val hS (by decide) rfl rfl (r_bv hS rfl rfl gN (b_addN _ _ _ (add_small (by decide) (blen_byte (by omega))))) ?_; clear hS; intro a hS
        refine s_val hS (by decide) rfl rfl (r_assign hS rfl) ?_; clear hS; intro a hS
        refine s_nil ?_
        refine k_seq ?_
        refine c_ret ?_
        exact k_res1 hS rfl (RV.tmp rfl) ⟨(congrArg (fun q => Ending.returned (N q)) (by first | exact blen_eq (s := 56) (D := 72057594037927936) (by decide) (by omega) (by omega) | exact blen_eq (s := 48) (D := 281474976710656) (by decide) (by omega) (by omega) | exact blen_eq (s := 40) (D := 1099511627776) (by decide) (by omega) (by omega) | exact blen_eq (s := 32) (D := 4294967296) (by decide) (by omega) (by omega) | exact blen_eq (s := 24) (D := 16777216) (by decide) (by omega) (by omega) | exact blen_eq (s := 16) (D := 65536) (by decide) (by omega) (by omega) | exact blen_eq (s := 8) (D := 256) (by decide) (by omega) (by omega) | exact blen_eq (s := 0) (D := 1) (by decide) (by omega) (by omega))), hM.done trivial⟩
      · have h3 := of_decide_eq_false hc
        refine c_skip ?_
        refine k_seq ?_
        refine c_seq ?_
        refine c_region ?_
        refine s_val hS (by decide) rfl rfl (r_move hS rfl) ?_; clear hS; intro a hS
        refine s_val hS (by decide) rfl rfl (r_move hS rfl) ?_; clear hS; intro a hS
        refine s_val hS (by decide) rfl rfl (r_conv hS rfl (by kernel_rfl) Tryd.underlying5 (cv_XB _)) ?_; clear hS; intro a hS
        refine s_val hS (by decide) rfl rfl (r_idxS hS (show ev _ _ = some (SV len8) from rfl) rfl Tryd.underlying9 (len8_byte (by omega))) ?_; clear hS; intro a hS
        refine s_val hS (by decide) rfl rfl (r_conv hS rfl (by kernel_rfl) Tryd.underlying3 (cv_BN' _ (blen_byte (by omega)))) ?_; clear hS; intro a hS
        refine s_val hS (by decide) rfl rfl (r_bv hS rfl rfl gN (b_addN _ _ _ (add_small (by decide) (blen_byte (by omega))))) ?_; clear hS; intro a hS
        refine s_val hS (by decide) rfl rfl (r_assign hS rfl) ?_; clear hS; intro a hS
        refine s_nil ?_
        refine k_seq ?_
        refine c_ret ?_
        exact k_res1 hS rfl (RV.tmp rfl) ⟨(congrArg (fun q => Ending.returned (N q)) (by first | exact blen_eq (s := 56) (D := 72057594037927936) (by decide) (by omega) (by omega) | exact blen_eq (s := 48) (D := 281474976710656) (by decide) (by omega) (by omega) | exact blen_eq (s := 40) (D := 1099511627776) (by decide) (by omega) (by omega) | exact blen_eq (s := 32) (D := 4294967296) (by decide) (by omega) (by omega) | exact blen_eq (s := 24) (D := 16777216) (by decide) (by omega) (by omega) | exact blen_eq (s := 16) (D := 65536) (by decide) (by omega) (by omega) | exact blen_eq (s := 8) (D := 256) (by decide) (by omega) (by omega) | exact blen_eq (s := 0) (D := 1) (by decide) (by omega) (by omega))), hM.done trivial⟩

set_option maxRecDepth 100000 in
theorem log10_ok (w0 : World) (b : Nat) (hb : b ≤ 64) : Pure Tryd.prog 56 #[N b] w0 (N (l10 b)) := by
  refine ⟨by kernel_rfl, ?_⟩
  refine calls_sym Tryd.func56 rfl (by kernel_rfl) ?_
  intro a hS
  have hM : Mem w0 w0 [] := Mem.refl w0
  refine c_seq ?_
  refine c_region ?_
  refine s_val hS (by decide) rfl rfl (r_assign hS (show ev _ _ = some (N 0) from rfl)) ?_; clear hS; intro a hS
  refine s_nil ?_
  refine k_seq ?_
  refine c_seq ?_
  refine c_region ?_
  refine s_val hS (by decide) rfl rfl (r_move hS rfl) ?_; clear hS; intro a hS
  refine s_val hS (by decide) rfl rfl (r_bv hS rfl (show ev _ _ = some (N 78913) from rfl) gN (b_mulN _ _ _ (by omega))) ?_; clear hS; intro a hS
  refine s_val hS (by decide) rfl rfl (r_bv hS rfl (show ev _ _ = some (.int .u64 ((18 : Nat) : Int)) from rfl) gN (b_shrN _ _ 18 262144 (by decide) (by decide))) ?_; clear hS; intro a hS
  refine s_val hS (by decide) rfl rfl (r_assign hS rfl) ?_; clear hS; intro a hS
  refine s_nil ?_
  refine k_seq ?_
  refine c_ret ?_
  exact k_res1 hS rfl (RV.tmp rfl) ⟨rfl, hM.done trivial⟩

set_option maxRecDepth 100000 in
theorem bool2_ok (w0 : World) (b : Bool) : Pure Tryd.prog 58 #[.bool b] w0 (N (if b then 1 else 0)) := by
  refine ⟨by kernel_rfl, ?_⟩
  refine calls_sym Tryd.func58 rfl (by kernel_rfl) ?_
  intro a hS
  have hM : Mem w0 w0 [] := Mem.refl w0
  refine c_seq ?_
  refine c_region ?_
  refine s_val hS (by decide) rfl rfl (r_assign hS (show ev _ _ = some (N 0) from rfl)) ?_; clear hS; intro a hS
  refine s_nil ?_
  refine k_seq ?_
  refine c_seq ?_
  refine c_seq ?_
  refine c_region ?_
  refine s_val hS (by decide) rfl rfl (r_move hS rfl) ?_; clear hS; intro a hS
  refine s_nil ?_
  refine k_seq ?_
  refine c_cond hS rfl (fun hc => ?_) (fun hc => ?_)
  · subst hc
    refine c_seq ?_
    refine c_region ?_
    refine s_val hS (by decide) rfl rfl (r_assign hS (show ev _ _ = some (N 1) from rfl)) ?_; clear hS; intro a hS
    refine s_nil ?_
    refine k_seq ?_
    refine c_ret ?_
    refine k_thenr ?_
    exact k_res1 hS rfl (RV.tmp rfl) ⟨rfl, hM.done trivial⟩
  · subst hc
    refine c_skip ?_
    refine k_seq ?_
    refine c_seq ?_
    refine c_region ?_
    refine s_val hS (by decide) rfl rfl (r_assign hS (show ev _ _ = some (N 0) from rfl)) ?_; clear hS; intro a hS
    refine s_nil ?_
    refine k_seq ?_
    refine c_ret ?_
    exact k_res1 hS rfl (RV.tmp rfl) ⟨rfl, hM.done trivial⟩

set_option maxRecDepth 100000 in
theorem numDigits_ok (w0 : World) (hG : PW w0) (n : Nat) (hn : n < 18446744073709551616) : Pure Tryd.prog 48 #[X n] w0 (N (nd n)) := by
  refine ⟨by kernel_rfl, ?_⟩
  refine calls_sym Tryd.func48 rfl (by kernel_rfl) ?_
  intro a hS
  have hM : Mem w0 w0 [] := Mem.refl w0
  have hl := l10_lt hn
  refine c_seq ?_
  refine c_region ?_
  refine s_val hS (by decide) rfl rfl (r_assign hS (show ev _ _ = some (N 0) from rfl)) ?_; clear hS; intro a hS
  refine s_nil ?_
  refine k_seq ?_
  refine c_seq ?_
  refine c_region ?_
  refine s_val hS (by decide) rfl rfl (r_move hS rfl) ?_; clear hS; intro a hS
  refine s_pure hS hM (by decide) rfl (len64_ok _ _ (by omega)) ?_; clear hS hM; intro a w hS hM
  refine s_pure hS hM (by decide) rfl (log10_ok _ _ (blen_le hn)) ?_; clear hS hM; intro a w hS hM
  refine s_val hS (by decide) rfl rfl (r_assign hS rfl) ?_; clear hS; intro a hS
  refine s_nil ?_
  refine k_seq ?_
  refine c_seq ?_
  refine c_region ?_
  refine s_val hS (by decide) rfl rfl (r_move hS rfl) ?_; clear hS; intro a hS
  refine s_val hS (by decide) rfl rfl (r_move hS rfl) ?_; clear hS; intro a hS
  refine s_val hS (by decide) rfl rfl (r_move hS rfl) ?_; clear hS; intro a hS
  refine s_val hS (by decide) rfl rfl (r_index0 hS rfl rfl Tryd.underlying79 sz42 hl) ?_; clear hS; intro a hS
  refine s_val hS (by decide) rfl rfl (r_loadOut hS hM rfl hG.lt (fun _ h => by cases h) Tryd.underlying42 rfl (hG.get _ hl)) ?_; clear hS; intro a hS
  refine s_val hS (by decide) rfl rfl (r_bv hS rfl rfl gX (b_geqX _ _ _)) ?_; clear hS; intro a hS
  refine s_pure hS hM (by decide) rfl (bool2_ok _ _) ?_; clear hS hM; intro a w hS hM
  refine s_val hS (by decide) rfl rfl (r_bv hS rfl rfl gN (b_addN _ _ _ (by split <;> omega))) ?_; clear hS; intro a hS
  refine s_val hS (by decide) rfl rfl (r_assign hS rfl) ?_; clear hS; intro a hS
  refine s_nil ?_
  refine k_seq ?_
  refine c_ret ?_
  exact k_res1 hS rfl (RV.tmp rfl) ⟨(congrArg (fun q => Ending.returned (N q)) (by unfold nd; simp only [decide_eq_true_eq])), hM.done trivial⟩

set_option maxRecDepth 100000 in
theorem small_ok (w0 : World) (n : Nat) (hn : n < 100) : Pure Tryd.prog 47 #[N n] w0 (SV (ds n)) := by
  refine ⟨by kernel_rfl, ?_⟩
  refine calls_sym Tryd.func47 rfl (by kernel_rfl) ?_
  intro a hS
  have hM : Mem w0 w0 [] := Mem.refl w0
  refine c_seq ?_
  refine c_region ?_
  refine s_val hS (by decide) rfl rfl (r_assign hS (show ev _ _ = some (SV []) from rfl)) ?_; clear hS; intro a hS
  refine s_nil ?_
  refine k_seq ?_
  refine c_seq ?_
  refine c_seq ?_
  refine c_region ?_
  refine s_val hS (by decide) rfl rfl (r_move hS rfl) ?_; clear hS; intro a hS
  refine s_val hS (by decide) rfl rfl (r_bv hS rfl (show ev _ _ = some (N 10) from rfl) gN (b_lssN _ _ _)) ?_; clear hS; intro a hS
  refine s_nil ?_
  refine k_seq ?_
  refine c_cond hS rfl (fun hc => ?_) (fun hc => ?_)
  · have h1 := of_decide_eq_true hc
    refine c_seq ?_
    refine c_region ?_
    refine s_val hS (by decide) rfl rfl (r_move hS rfl) ?_; clear hS; intro a hS
    refine s_val hS (by decide) rfl rfl (r_move hS rfl) ?_; clear hS; intro a hS
    refine s_val hS (by decide) rfl rfl (r_bv hS rfl (show ev _ _ = some (N 1) from rfl) gN (b_addN _ _ _ (by omega))) ?_; clear hS; intro a hS
    refine s_val hS (by decide) rfl rfl (r_partS hS (show ev _ _ = some (SV sixs) from rfl) ⟨_, rfl⟩ ⟨_, rfl⟩ Tryd.underlying9 (by omega) (by show n + 1 ≤ 36; omega)) ?_; clear hS; intro a hS
    refine s_val hS (by decide) rfl rfl (r_assign hS rfl) ?_; clear hS; intro a hS
    refine s_nil ?_
    refine k_seq ?_
    refine c_ret ?_
    refine k_thenr ?_
    exact k_res1 hS rfl (RV.tmp rfl) ⟨(congrArg (fun q => Ending.returned (SV q)) (by first | exact small_one ⟨n, h1⟩ | exact small_two ⟨n, hn⟩ (by show 10 ≤ n; omega))), hM.done trivial⟩
  · have h1 := of_decide_eq_false hc
    refine c_skip ?_
    refine k_seq ?_
    refine c_seq ?_
    refine c_region ?_
    refine s_val hS (by decide) rfl rfl (r_move hS rfl) ?_; clear hS; intro a hS
    refine s_val hS (by decide) rfl rfl (r_bv hS rfl (show ev _ _ = some (N 2) from rfl) gN (b_mulN _ _ _ (by omega))) ?_; clear hS; intro a hS
    refine s_val hS (by decide) rfl rfl (r_move hS rfl) ?_; clear hS; intro a hS
    refine s_val hS (by decide) rfl rfl (r_bv hS rfl (show ev _ _ = some (N 2) from rfl) gN (b_mulN _ _ _ (by omega))) ?_; clear hS; intro a hS
    refine s_val hS (by decide) rfl rfl (r_bv hS rfl (show ev _ _ = some (N 2) from rfl) gN (b_addN _ _ _ (by omega))) ?_; clear hS; intro a hS
    refine s_val hS (by decide) rfl rfl (r_partS hS (show ev _ _ = some (SV pairs) from rfl) ⟨_, rfl⟩ ⟨_, rfl⟩ Tryd.underlying9 (by omega) (by show n * 2 + 2 ≤ 200; omega)) ?_; clear hS; intro a hS
    refine s_val hS (by decide) rfl rfl (r_assign hS rfl) ?_; clear hS; intro a hS
    refine s_nil ?_
    refine k_seq ?_
    refine c_ret ?_
    exact k_res1 hS rfl (RV.tmp rfl) ⟨(congrArg (fun q => Ending.returned (SV q)) (by first | exact small_one ⟨n, h1⟩ | exact small_two ⟨n, hn⟩ (by show 10 ≤ n; omega))), hM.done trivial⟩

set_option maxRecDepth 100000 in
theorem fmt10_ok (w0 : World) (n d : Nat) (hn : n < 10 ^ d) (hd : d ≤ 20) (hu : n < 18446744073709551616) (f : Nat → BitVec 8) {b : Nat} (hb : w0.heap[b]? = some (.cells (cB 24 f).toArray 66 (0, 0))) : Wrote Tryd.prog 49 #[.slice (some ⟨b, 0, none⟩) d 24, X n] w0 b 66 (cB 24 (mk n d 0 f)) (.tuple #[]) := by
  refine ⟨by kernel_rfl, ?_⟩
  refine calls_sym Tryd.func49 rfl (by kernel_rfl) ?_
  intro a hS
  have hM : Mem w0 w0 [⟨b, 66, cB 24 f⟩] := Mem.start hb
  refine c_seq ?_
  refine c_region ?_
  refine s_val hS (by decide) rfl rfl (r_move hS rfl) ?_; clear hS; intro a hS
  refine s_val hS (by decide) rfl rfl (r_len hS rfl Tryd.underlying56) ?_; clear hS; intro a hS
  refine s_val hS (by decide) rfl rfl (r_assign hS rfl) ?_; clear hS; intro a hS
  refine s_nil ?_
  refine k_seq ?_
  refine c_seq ?_
  refine c_block ?_
  refine c_loop (σ := Nat × Nat) (fun s_ a w => (At n d s_.1 s_.2 ∧ s_.2 < 18446744073709551616) ∧ Slots a 167 (env [(0, .slice (some ⟨b, 0, none⟩) d 24), (1, X s_.2), (4, N s_.1)]) ∧ Mem w0 w ([⟨b, 66, cB 24 (mk n d s_.1 f)⟩])) (fun s_ => s_.1) (d, n) ⟨⟨At.start n d, hu⟩, hS.to _ ⟨rfl, rfl, rfl, trivial⟩, (hM.congr (by rw [mk_start]))⟩ ?_
  clear hS hM; rintro ⟨p, q⟩ a w ⟨hk, hS, hM⟩
  dsimp only at hk hS hM; have hA := hk.1; have hq := hk.2; clear hk
  refine c_seq ?_
  refine c_seq ?_
  refine c_region ?_
  refine s_val hS (by decide) rfl rfl (r_move hS rfl) ?_; clear hS; intro a hS
  refine s_val hS (by decide) rfl rfl (r_bv hS rfl (show ev _ _ = some (N 8) from rfl) gN (b_geqN _ _ _)) ?_; clear hS; intro a hS
  refine s_nil ?_
  refine k_seq ?_
  refine c_cond hS rfl (fun hc => ?_) (fun hc => ?_)
  · have hp := of_decide_eq_true hc; have hpd := hA.1
    refine c_skip ?_
    refine k_seq ?_
    refine c_block ?_
    refine c_seq ?_
    refine c_region ?_
    refine s_val hS (by decide) rfl rfl (r_move hS rfl) ?_; clear hS; intro a hS
    refine s_val hS (by decide) rfl rfl (r_bv hS rfl (show ev _ _ = some (X 100000000) from rfl) gX (b_remX _ _ _ (by omega))) ?_; clear hS; intro a hS
    refine s_val hS (by decide) rfl rfl (r_conv hS rfl (by kernel_rfl) Tryd.underlying71 (cv_XY _ (by omega))) ?_; clear hS; intro a hS
    refine s_val hS (by decide) rfl rfl (r_assign hS rfl) ?_; clear hS; intro a hS
    refine s_nil ?_
    refine k_seq ?_
    refine c_seq ?_
    refine c_region ?_
    refine s_val hS (by decide) rfl rfl (r_move hS rfl) ?_; clear hS; intro a hS
    refine s_val hS (by decide) rfl rfl (r_bv hS rfl (show ev _ _ = some (X 100000000) from rfl) gX (b_quoX _ _ _ (by omega) (by omega))) ?_; clear hS; intro a hS
    refine s_val hS (by decide) rfl rfl (r_assign hS rfl) ?_; clear hS; intro a hS
    refine s_nil ?_
    refine k_seq ?_
    refine c_seq ?_
    refine c_region ?_
    refine s_val hS (by decide) rfl rfl (r_move hS rfl) ?_; clear hS; intro a hS
    refine s_val hS (by decide) rfl rfl (r_bv hS rfl (show ev _ _ = some (Y 10000) from rfl) gY (b_quoY _ _ _ (by omega) (by omega))) ?_; clear hS; intro a hS
    refine s_val hS (by decide) rfl rfl (r_move hS rfl) ?_; clear hS; intro a hS
    refine s_val hS (by decide) rfl rfl (r_bv hS rfl (show ev _ _ = some (Y 10000) from rfl) gY (b_remY _ _ _ (by omega))) ?_; clear hS; intro a hS
    refine s_val hS (by decide) rfl rfl (r_assign hS rfl) ?_; clear hS; intro a hS
    refine s_val hS (by decide) rfl rfl (r_assign hS rfl) ?_; clear hS; intro a hS
    refine s_nil ?_
    refine k_seq ?_
    refine c_seq ?_
    refine c_region ?_
    refine s_val hS (by decide) rfl rfl (r_move hS rfl) ?_; clear hS; intro a hS
    refine s_val hS (by decide) rfl rfl (r_bv hS rfl (show ev _ _ = some (Y 100) from rfl) gY (b_quoY _ _ _ (by omega) (by omega))) ?_; clear hS; intro a hS
    refine s_val hS (by decide) rfl rfl (r_bv hS rfl (show ev _ _ = some (Y 2) from rfl) gY (b_mulY _ _ _ (by omega))) ?_; clear hS; intro a hS
    refine s_val hS (by decide) rfl rfl (r_move hS rfl) ?_; clear hS; intro a hS
    refine s_val hS (by decide) rfl rfl (r_bv hS rfl (show ev _ _ = some (Y 100) from rfl) gY (b_remY _ _ _ (by omega))) ?_; clear hS; intro a hS
    refine s_val hS (by decide) rfl rfl (r_bv hS rfl (show ev _ _ = some (Y 2) from rfl) gY (b_mulY _ _ _ (by omega))) ?_; clear hS; intro a hS
    refine s_val hS (by decide) rfl rfl (r_assign hS rfl) ?_; clear hS; intro a hS
    refine s_val hS (by decide) rfl rfl (r_assign hS rfl) ?_; clear hS; intro a hS
    refine s_nil ?_
    refine k_seq ?_
    refine c_seq ?_
    refine c_region ?_
    refine s_val hS (by decide) rfl rfl (r_move hS rfl) ?_; clear hS; intro a hS
    refine s_val hS (by decide) rfl rfl (r_bv hS rfl (show ev _ _ = some (Y 100) from rfl) gY (b_quoY _ _ _ (by omega) (by omega))) ?_; clear hS; intro a hS
    refine s_val hS (by decide) rfl rfl (r_bv hS rfl (show ev _ _ = some (Y 2) from rfl) gY (b_mulY _ _ _ (by omega))) ?_; clear hS; intro a hS
    refine s_val hS (by decide) rfl rfl (r_move hS rfl) ?_; clear hS; intro a hS
    refine s_val hS (by decide) rfl rfl (r_bv hS rfl (show ev _ _ = some (Y 100) from rfl) gY (b_remY _ _ _ (by omega))) ?_; clear hS; intro a hS
    refine s_val hS (by decide) rfl rfl (r_bv hS rfl (show ev _ _ = some (Y 2) from rfl) gY (b_mulY _ _ _ (by omega))) ?_; clear hS; intro a hS
    refine s_val hS (by decide) rfl rfl (r_assign hS rfl) ?_; clear hS; intro a hS
    refine s_val hS (by decide) rfl rfl (r_assign hS rfl) ?_; clear hS; intro a hS
    refine s_nil ?_
    refine k_seq ?_
    refine c_seq ?_
    refine c_two 13 12 (fun i => Nat.beq i 3 || Nat.beq i 4 || Nat.beq i 5 || Nat.beq i 9 || Nat.beq i 10) (fun w => Mem w0 w _) [(0, _), (4, _), (9, _), (1, _), (5, _), (6, _), (7, _), (8, _), (10, _), (11, _), (19, _), (20, _), (21, _), (22, _), (23, _), (24, _), (25, _), (26, _), (27, _), (28, _), (29, _), (30, _), (31, _), (32, _), (33, _), (34, _), (35, _), (36, _), (37, _), (38, _), (39, _), (40, _), (41, _)] (by kernel_rfl) (by kernel_rfl) hS ⟨rfl, rfl, rfl, rfl, rfl, rfl, rfl, rfl, rfl, rfl, rfl, rfl, rfl, rfl, rfl, rfl, rfl, rfl, rfl, rfl, rfl, rfl, rfl, rfl, rfl, rfl, rfl, rfl, rfl, rfl, rfl, rfl, rfl, trivial⟩ (hM.drawn _) ?_; clear hS hM
    refine t_step rfl rfl rfl (fun a w hS hM => y_val rfl (r_move hS rfl)) ?_
    refine t_step rfl rfl rfl (fun a w hS hM => y_val rfl (r_move hS rfl)) ?_
    refine t_step rfl rfl rfl (fun a w hS hM => y_val rfl (r_bv hS rfl (show ev _ _ = some (N 1) from rfl) gN (b_subN _ _ _ (by omega) (by omega)))) ?_
    refine t_float rfl rfl rfl rfl (fun a w hS => (r_move hS rfl)) ?_
    refine t_float rfl rfl rfl rfl (fun a w hS => (r_move hS rfl)) ?_
    refine t_float rfl rfl rfl rfl (fun a w hS => (r_bv hS rfl (show ev _ _ = some (N 2) from rfl) gN (b_subN _ _ _ (by omega) (by omega)))) ?_
    refine t_step rfl rfl rfl (fun a w hS hM => y_val rfl (r_move hS rfl)) ?_
    refine t_step rfl rfl rfl (fun a w hS hM => y_val rfl (r_bv hS rfl (show ev _ _ = some (Y 1) from rfl) gY (b_addY _ _ _ (by omega)))) ?_
    refine t_step rfl rfl rfl (fun a w hS hM => y_val rfl (r_idxS hS (show ev _ _ = some (SV pairs) from rfl) rfl Tryd.underlying9 (pair_lo (c := q % 100000000 % 10000 % 100) (by omega)))) ?_
    refine t_float rfl rfl rfl rfl (fun a w hS => (r_move hS rfl)) ?_
    refine t_float rfl rfl rfl rfl (fun a w hS => (r_idxS hS (show ev _ _ = some (SV pairs) from rfl) rfl Tryd.underlying9 (pair_hi (c := q % 100000000 % 10000 % 100) (by omega)))) ?_
    refine t_step rfl rfl rfl (fun a w hS hM => y_val rfl (r_indexS0 hS rfl rfl Tryd.underlying56 sz5 (by omega))) ?_
    refine t_write rfl rfl rfl rfl (fun a w hS hM => e_storeB hS hM rfl rfl (j := 0) rfl sz5 (by omega)) ?_
    refine p_nil rfl ?_; intro a w hS hM
    refine s_val hS (by decide) rfl rfl (r_indexS0 hS rfl rfl Tryd.underlying56 sz5 (by omega)) ?_; clear hS; intro a hS
    refine s_storeB hS hM rfl rfl (j := 0) rfl sz5 (by omega) ?_; clear hS hM; intro a w hS hM
    rw [mk_two hA (i := p - 1) (j := p - 2) (by omega) (by omega) f (c := q % 100000000 % 10000 % 100) (by omega)] at hM; replace hA := hA.two (j := p - 2) (by omega)
    refine s_nil ?_
    refine k_seq ?_
    refine c_seq ?_
    refine c_two 13 12 (fun i => Nat.beq i 3 || Nat.beq i 4 || Nat.beq i 5 || Nat.beq i 9 || Nat.beq i 10) (fun w => Mem w0 w _) [(0, _), (4, _), (8, _), (1, _), (5, _), (6, _), (7, _), (9, _), (10, _), (11, _), (19, _), (20, _), (21, _), (22, _), (23, _), (24, _), (25, _), (26, _), (27, _), (28, _), (29, _), (30, _), (31, _), (32, _), (33, _), (34, _), (35, _), (36, _), (37, _), (38, _), (39, _), (40, _), (41, _), (42, _), (43, _), (44, _), (45, _), (46, _), (47, _), (48, _), (49, _), (50, _), (51, _), (52, _), (53, _), (54, _)] (by kernel_rfl) (by kernel_rfl) hS ⟨rfl, rfl, rfl, rfl, rfl, rfl, rfl, rfl, rfl, rfl, rfl, rfl, rfl, rfl, rfl, rfl, rfl, rfl, rfl, rfl, rfl, rfl, rfl, rfl, rfl, rfl, rfl, rfl, rfl, rfl, rfl, rfl, rfl, rfl, rfl, rfl, rfl, rfl, rfl, rfl, rfl, rfl, rfl, rfl, rfl, rfl, trivial⟩ (hM.drawn _) ?_; clear hS hM
    refine t_step rfl rfl rfl (fun a w hS hM => y_val rfl (r_move hS rfl)) ?_
    refine t_step rfl rfl rfl (fun a w hS hM => y_val rfl (r_move hS rfl)) ?_
    refine t_step rfl rfl rfl (fun a w hS hM => y_val rfl (r_bv hS rfl (show ev _ _ = some (N 3) from rfl) gN (b_subN _ _ _ (by omega) (by omega)))) ?_
    refine t_float rfl rfl rfl rfl (fun a w hS => (r_move hS rfl)) ?_
    refine t_float rfl rfl rfl rfl (fun a w hS => (r_move hS rfl)) ?_
    refine t_float rfl rfl rfl rfl (fun a w hS => (r_bv hS rfl (show ev _ _ = some (N 4) from rfl) gN (b_subN _ _ _ (by omega) (by omega)))) ?_
    refine t_step rfl rfl rfl (fun a w hS hM => y_val rfl (r_move hS rfl)) ?_
    refine t_step rfl rfl rfl (fun a w hS hM => y_val rfl (r_bv hS rfl (show ev _ _ = some (Y 1) from rfl) gY (b_addY _ _ _ (by omega)))) ?_
    refine t_step rfl rfl rfl (fun a w hS hM => y_val rfl (r_idxS hS (show ev _ _ = some (SV pairs) from rfl) rfl Tryd.underlying9 (pair_lo (c := q % 100000000 % 10000 / 100) (by omega)))) ?_
    refine t_float rfl rfl rfl rfl (fun a w hS => (r_move hS rfl)) ?_
    refine t_float rfl rfl rfl rfl (fun a w hS => (r_idxS hS (show ev _ _ = some (SV pairs) from rfl) rfl Tryd.underlying9 (pair_hi (c := q % 100000000 % 10000 / 100) (by omega)))) ?_
    refine t_step rfl rfl rfl (fun a w hS hM => y_val rfl (r_indexS0 hS rfl rfl Tryd.underlying56 sz5 (by omega))) ?_
    refine t_write rfl rfl rfl rfl (fun a w hS hM => e_storeB hS hM rfl rfl (j := 0) rfl sz5 (by omega)) ?_
    refine p_nil rfl ?_; intro a w hS hM
    refine s_val hS (by decide) rfl rfl (r_indexS0 hS rfl rfl Tryd.underlying56 sz5 (by omega)) ?_; clear hS; intro a hS
    refine s_storeB hS hM rfl rfl (j := 0) rfl sz5 (by omega) ?_; clear hS hM; intro a w hS hM
    rw [mk_two hA (i := p - 3) (j := p - 4) (by omega) (by omega) f (c := q % 100000000 % 10000 / 100) (by omega)] at hM; replace hA := hA.two (j := p - 4) (by omega)
    refine s_nil ?_
    refine k_seq ?_
    refine c_seq ?_
    refine c_two 13 12 (fun i => Nat.beq i 3 || Nat.beq i 4 || Nat.beq i 5 || Nat.beq i 9 || Nat.beq i 10) (fun w => Mem w0 w _) [(0, _), (4, _), (11, _), (1, _), (5, _), (6, _), (7, _), (8, _), (9, _), (10, _), (19, _), (20, _), (21, _), (22, _), (23, _), (24, _), (25, _), (26, _), (27, _), (28, _), (29, _), (30, _), (31, _), (32, _), (33, _), (34, _), (35, _), (36, _), (37, _), (38, _), (39, _), (40, _), (41, _), (42, _), (43, _), (44, _), (45, _), (46, _), (47, _), (48, _), (49, _), (50, _), (51, _), (52, _), (53, _), (54, _), (55, _), (56, _), (57, _), (58, _), (59, _), (60, _), (61, _), (62, _), (63, _), (64, _), (65, _), (66, _), (67, _)] (by kernel_rfl) (by kernel_rfl) hS ⟨rfl, rfl, rfl, rfl, rfl, rfl, rfl, rfl, rfl, rfl, rfl, rfl, rfl, rfl, rfl, rfl, rfl, rfl, rfl, rfl, rfl, rfl, rfl, rfl, rfl, rfl, rfl, rfl, rfl, rfl, rfl, rfl, rfl, rfl, rfl, rfl, rfl, rfl, rfl, rfl, rfl, rfl, rfl, rfl, rfl, rfl, rfl, rfl, rfl, rfl, rfl, rfl, rfl, rfl, rfl, rfl, rfl, rfl, rfl, trivial⟩ (hM.drawn _) ?_; clear hS hM
    refine t_step rfl rfl rfl (fun a w hS hM => y_val rfl (r_move hS rfl)) ?_
    refine t_step rfl rfl rfl (fun a w hS hM => y_val rfl (r_move hS rfl)) ?_
    refine t_step rfl rfl rfl (fun a w hS hM => y_val rfl (r_bv hS rfl (show ev _ _ = some (N 5) from rfl) gN (b_subN _ _ _ (by omega) (by omega)))) ?_
    refine t_float rfl rfl rfl rfl (fun a w hS => (r_move hS rfl)) ?_
    refine t_float rfl rfl rfl rfl (fun a w hS => (r_move hS rfl)) ?_
    refine t_float rfl rfl rfl rfl (fun a w hS => (r_bv hS rfl (show ev _ _ = some (N 6) from rfl) gN (b_subN _ _ _ (by omega) (by omega)))) ?_
    refine t_step rfl rfl rfl (fun a w hS hM => y_val rfl (r_move hS rfl)) ?_
    refine t_step rfl rfl rfl (fun a w hS hM => y_val rfl (r_bv hS rfl (show ev _ _ = some (Y 1) from rfl) gY (b_addY _ _ _ (by omega)))) ?_
    refine t_step rfl rfl rfl (fun a w hS hM => y_val rfl (r_idxS hS (show ev _ _ = some (SV pairs) from rfl) rfl Tryd.underlying9 (pair_lo (c := q % 100000000 / 10000 % 100) (by omega)))) ?_
    refine t_float rfl rfl rfl rfl (fun a w hS => (r_move hS rfl)) ?_
    refine t_float rfl rfl rfl rfl (fun a w hS => (r_idxS hS (show ev _ _ = some (SV pairs) from rfl) rfl Tryd.underlying9 (pair_hi (c := q % 100000000 / 10000 % 100) (by omega)))) ?_
    refine t_step rfl rfl rfl (fun a w hS hM => y_val rfl (r_indexS0 hS rfl rfl Tryd.underlying56 sz5 (by omega))) ?_
    refine t_write rfl rfl rfl rfl (fun a w hS hM => e_storeB hS hM rfl rfl (j := 0) rfl sz5 (by omega)) ?_
    refine p_nil rfl ?_; intro a w hS hM
    refine s_val hS (by decide) rfl rfl (r_indexS0 hS rfl rfl Tryd.underlying56 sz5 (by omega)) ?_; clear hS; intro a hS
    refine s_storeB hS hM rfl rfl (j := 0) rfl sz5 (by omega) ?_; clear hS hM; intro a w hS hM
    rw [mk_two hA (i := p - 5) (j := p - 6) (by omega) (by omega) f (c := q % 100000000 / 10000 % 100) (by omega)] at hM; replace hA := hA.two (j := p - 6) (by omega)
    refine s_nil ?_
    refine k_seq ?_
    refine c_seq ?_
    refine c_two 13 12 (fun i => Nat.beq i 3 || Nat.beq i 4 || Nat.beq i 5 || Nat.beq i 9 || Nat.beq i 10) (fun w => Mem w0 w _) [(0, _), (4, _), (10, _), (1, _), (5, _), (6, _), (7, _), (8, _), (9, _), (11, _), (19, _), (20, _), (21, _), (22, _), (23, _), (24, _), (25, _), (26, _), (27, _), (28, _), (29, _), (30, _), (31, _), (32, _), (33, _), (34, _), (35, _), (36, _), (37, _), (38, _), (39, _), (40, _), (41, _), (42, _), (43, _), (44, _), (45, _), (46, _), (47, _), (48, _), (49, _), (50, _), (51, _), (52, _), (53, _), (54, _), (55, _), (56, _), (57, _), (58, _), (59, _), (60, _), (61, _), (62, _), (63, _), (64, _), (65, _), (66, _), (67, _), (68, _), (69, _), (70, _), (71, _), (72, _), (73, _), (74, _), (75, _), (76, _), (77, _), (78, _), (79, _), (80, _)] (by kernel_rfl) (by kernel_rfl) hS ⟨rfl, rfl, rfl, rfl, rfl, rfl, rfl, rfl, rfl, rfl, rfl, rfl, rfl, rfl, rfl, rfl, rfl, rfl, rfl, rfl, rfl, rfl, rfl, rfl, rfl, rfl, rfl, rfl, rfl, rfl, rfl, rfl, rfl, rfl, rfl, rfl, rfl, rfl, rfl, rfl, rfl, rfl, rfl, rfl, rfl, rfl, rfl, rfl, rfl, rfl, rfl, rfl, rfl, rfl, rfl, rfl, rfl, rfl, rfl, rfl, rfl, rfl, rfl, rfl, rfl, rfl, rfl, rfl, rfl, rfl, rfl, rfl, trivial⟩ (hM.drawn _) ?_; clear hS hM
    refine t_step rfl rfl rfl (fun a w hS hM => y_val rfl (r_move hS rfl)) ?_
    refine t_step rfl rfl rfl (fun a w hS hM => y_val rfl (r_move hS rfl)) ?_
    refine t_step rfl rfl rfl (fun a w hS hM => y_val rfl (r_bv hS rfl (show ev _ _ = some (N 7) from rfl) gN (b_subN _ _ _ (by omega) (by omega)))) ?_
    refine t_float rfl rfl rfl rfl (fun a w hS => (r_move hS rfl)) ?_
    refine t_float rfl rfl rfl rfl (fun a w hS => (r_move hS rfl)) ?_
    refine t_float rfl rfl rfl rfl (fun a w hS => (r_bv hS rfl (show ev _ _ = some (N 8) from rfl) gN (b_subN _ _ _ (by omega) (by omega)))) ?_
    refine t_step rfl rfl rfl (fun a w hS hM => y_val rfl (r_move hS rfl)) ?_
    refine t_step rfl rfl rfl (fun a w hS hM => y_val rfl (r_bv hS rfl (show ev _ _ = some (Y 1) from rfl) gY (b_addY _ _ _ (by omega)))) ?_
    refine t_step rfl rfl rfl (fun a w hS hM => y_val rfl (r_idxS hS (show ev _ _ = some (SV pairs) from rfl) rfl Tryd.underlying9 (pair_lo (c := q % 100000000 / 10000 / 100) (by omega)))) ?_
    refine t_float rfl rfl rfl rfl (fun a w hS => (r_move hS rfl)) ?_
    refine t_float rfl rfl rfl rfl (fun a w hS => (r_idxS hS (show ev _ _ = some (SV pairs) from rfl) rfl Tryd.underlying9 (pair_hi (c := q % 100000000 / 10000 / 100) (by omega)))) ?_
    refine t_step rfl rfl rfl (fun a w hS hM => y_val rfl (r_indexS0 hS rfl rfl Tryd.underlying56 sz5 (by omega))) ?_
    refine t_write rfl rfl rfl rfl (fun a w hS hM => e_storeB hS hM rfl rfl (j := 0) rfl sz5 (by omega)) ?_
    refine p_nil rfl ?_; intro a w hS hM
    refine s_val hS (by decide) rfl rfl (r_indexS0 hS rfl rfl Tryd.underlying56 sz5 (by omega)) ?_; clear hS; intro a hS
    refine s_storeB hS hM rfl rfl (j := 0) rfl sz5 (by omega) ?_; clear hS hM; intro a w hS hM
    rw [mk_two hA (i := p - 7) (j := p - 8) (by omega) (by omega) f (c := q % 100000000 / 10000 / 100) (by omega)] at hM; replace hA := hA.two (j := p - 8) (by omega)
    refine s_nil ?_
    refine k_seq ?_
    refine c_region ?_
    refine s_val hS (by decide) rfl rfl (r_move hS rfl) ?_; clear hS; intro a hS
    refine s_val hS (by decide) rfl rfl (r_bv hS rfl (show ev _ _ = some (N 8) from rfl) gN (b_subN _ _ _ (by omega) (by omega))) ?_; clear hS; intro a hS
    refine s_val hS (by decide) rfl rfl (r_assign hS rfl) ?_; clear hS; intro a hS
    refine s_nil ?_
    refine k_in ?_
    refine k_then ?_
    refine ⟨(p - 8, q / 100000000), (by show p - 8 < p; omega), ⟨(by rw [show q / 100000000 = q / 100 / 100 / 100 / 100 by omega]; exact hA), (by show q / 100000000 < _; omega)⟩, hS.to _ ⟨rfl, rfl, rfl, trivial⟩, hM⟩
  · have hp := of_decide_eq_false hc; have hpd := hA.1; have hq8 := hA.lt hn (m := 8) (M := 100000000) (by omega) (by decide)
    refine c_exit ?_
    refine k_thenx ?_
    refine k_thenx ?_
    refine k_inx ?_
    refine k_seq ?_
    refine c_seq ?_
    refine c_region ?_
    refine s_val hS (by decide) rfl rfl (r_move hS rfl) ?_; clear hS; intro a hS
    refine s_val hS (by decide) rfl rfl (r_conv hS rfl (by kernel_rfl) Tryd.underlying71 (cv_XY _ (by omega))) ?_; clear hS; intro a hS
    refine s_val hS (by decide) rfl rfl (r_assign hS rfl) ?_; clear hS; intro a hS
    refine s_nil ?_
    refine k_seq ?_
    refine c_seq ?_
    refine c_seq ?_
    refine c_region ?_
    refine s_val hS (by decide) rfl rfl (r_move hS rfl) ?_; clear hS; intro a hS
    refine s_val hS (by decide) rfl rfl (r_bv hS rfl (show ev _ _ = some (N 4) from rfl) gN (b_geqN _ _ _)) ?_; clear hS; intro a hS
    refine s_nil ?_
    refine k_seq ?_
    refine c_cond hS rfl (fun hc => ?_) (fun hc => ?_)
    · have h99 := of_decide_eq_true hc
      refine c_seq ?_
      refine c_region ?_
      refine s_val hS (by decide) rfl rfl (r_move hS rfl) ?_; clear hS; intro a hS
      refine s_val hS (by decide) rfl rfl (r_bv hS rfl (show ev _ _ = some (Y 10000) from rfl) gY (b_remY _ _ _ (by omega))) ?_; clear hS; intro a hS
      refine s_val hS (by decide) rfl rfl (r_assign hS rfl) ?_; clear hS; intro a hS
      refine s_nil ?_
      refine k_seq ?_
      refine c_seq ?_
      refine c_region ?_
      refine s_val hS (by decide) rfl rfl (r_move hS rfl) ?_; clear hS; intro a hS
      refine s_val hS (by decide) rfl rfl (r_bv hS rfl (show ev _ _ = some (Y 10000) from rfl) gY (b_quoY _ _ _ (by omega) (by omega))) ?_; clear hS; intro a hS
      refine s_val hS (by decide) rfl rfl (r_assign hS rfl) ?_; clear hS; intro a hS
      refine s_nil ?_
      refine k_seq ?_
      refine c_seq ?_
      refine c_region ?_
      refine s_val hS (by decide) rfl rfl (r_move hS rfl) ?_; clear hS; intro a hS
      refine s_val hS (by decide) rfl rfl (r_bv hS rfl (show ev _ _ = some (Y 100) from rfl) gY (b_quoY _ _ _ (by omega) (by omega))) ?_; clear hS; intro a hS
      refine s_val hS (by decide) rfl rfl (r_bv hS rfl (show ev _ _ = some (Y 2) from rfl) gY (b_mulY _ _ _ (by omega))) ?_; clear hS; intro a hS
      refine s_val hS (by decide) rfl rfl (r_move hS rfl) ?_; clear hS; intro a hS
      refine s_val hS (by decide) rfl rfl (r_bv hS rfl (show ev _ _ = some (Y 100) from rfl) gY (b_remY _ _ _ (by omega))) ?_; clear hS; intro a hS
      refine s_val hS (by decide) rfl rfl (r_bv hS rfl (show ev _ _ = some (Y 2) from rfl) gY (b_mulY _ _ _ (by omega))) ?_; clear hS; intro a hS
      refine s_val hS (by decide) rfl rfl (r_assign hS rfl) ?_; clear hS; intro a hS
      refine s_val hS (by decide) rfl rfl (r_assign hS rfl) ?_; clear hS; intro a hS
      refine s_nil ?_
      refine k_seq ?_
      refine c_seq ?_
      refine c_two 13 12 (fun i => Nat.beq i 3 || Nat.beq i 4 || Nat.beq i 5 || Nat.beq i 9 || Nat.beq i 10) (fun w => Mem w0 w _) [(0, _), (4, _), (15, _), (12, _), (14, _)] (by kernel_rfl) (by kernel_rfl) hS ⟨rfl, rfl, rfl, rfl, rfl, trivial⟩ (hM.drawn _) ?_; clear hS hM
      refine t_step rfl rfl rfl (fun a w hS hM => y_val rfl (r_move hS rfl)) ?_
      refine t_step rfl rfl rfl (fun a w hS hM => y_val rfl (r_move hS rfl)) ?_
      refine t_step rfl rfl rfl (fun a w hS hM => y_val rfl (r_bv hS rfl (show ev _ _ = some (N 1) from rfl) gN (b_subN _ _ _ (by omega) (by omega)))) ?_
      refine t_float rfl rfl rfl rfl (fun a w hS => (r_move hS rfl)) ?_
      refine t_float rfl rfl rfl rfl (fun a w hS => (r_move hS rfl)) ?_
      refine t_float rfl rfl rfl rfl (fun a w hS => (r_bv hS rfl (show ev _ _ = some (N 2) from rfl) gN (b_subN _ _ _ (by omega) (by omega)))) ?_
      refine t_step rfl rfl rfl (fun a w hS hM => y_val rfl (r_move hS rfl)) ?_
      refine t_step rfl rfl rfl (fun a w hS hM => y_val rfl (r_bv hS rfl (show ev _ _ = some (Y 1) from rfl) gY (b_addY _ _ _ (by omega)))) ?_
      refine t_step rfl rfl rfl (fun a w hS hM => y_val rfl (r_idxS hS (show ev _ _ = some (SV pairs) from rfl) rfl Tryd.underlying9 (pair_lo (c := q % 10000 % 100) (by omega)))) ?_
      refine t_float rfl rfl rfl rfl (fun a w hS => (r_move hS rfl)) ?_
      refine t_float rfl rfl rfl rfl (fun a w hS => (r_idxS hS (show ev _ _ = some (SV pairs) from rfl) rfl Tryd.underlying9 (pair_hi (c := q % 10000 % 100) (by omega)))) ?_
      refine t_step rfl rfl rfl (fun a w hS hM => y_val rfl (r_indexS0 hS rfl rfl Tryd.underlying56 sz5 (by omega))) ?_
      refine t_write rfl rfl rfl rfl (fun a w hS hM => e_storeB hS hM rfl rfl (j := 0) rfl sz5 (by omega)) ?_
      refine p_nil rfl ?_; intro a w hS hM
      refine s_val hS (by decide) rfl rfl (r_indexS0 hS rfl rfl Tryd.underlying56 sz5 (by omega)) ?_; clear hS; intro a hS
      refine s_storeB hS hM rfl rfl (j := 0) rfl sz5 (by omega) ?_; clear hS hM; intro a w hS hM
      rw [mk_two hA (i := p - 1) (j := p - 2) (by omega) (by omega) f (c := q % 10000 % 100) (by omega)] at hM; replace hA := hA.two (j := p - 2) (by omega)
      refine s_nil ?_
      refine k_seq ?_
      refine c_seq ?_
      refine c_two 13 12 (fun i => Nat.beq i 3 || Nat.beq i 4 || Nat.beq i 5 || Nat.beq i 9 || Nat.beq i 10) (fun w => Mem w0 w _) [(0, _), (4, _), (14, _), (12, _)] (by kernel_rfl) (by kernel_rfl) hS ⟨rfl, rfl, rfl, rfl, trivial⟩ (hM.drawn _) ?_; clear hS hM
      refine t_step rfl rfl rfl (fun a w hS hM => y_val rfl (r_move hS rfl)) ?_
      refine t_step rfl rfl rfl (fun a w hS hM => y_val rfl (r_move hS rfl)) ?_
      refine t_step rfl rfl rfl (fun a w hS hM => y_val rfl (r_bv hS rfl (show ev _ _ = some (N 3) from rfl) gN (b_subN _ _ _ (by omega) (by omega)))) ?_
      refine t_float rfl rfl rfl rfl (fun a w hS => (r_move hS rfl)) ?_
      refine t_float rfl rfl rfl rfl (fun a w hS => (r_move hS rfl)) ?_
      refine t_float rfl rfl rfl rfl (fun a w hS => (r_bv hS rfl (show ev _ _ = some (N 4) from rfl) gN (b_subN _ _ _ (by omega) (by omega)))) ?_
      refine t_step rfl rfl rfl (fun a w hS hM => y_val rfl (r_move hS rfl)) ?_
      refine t_step rfl rfl rfl (fun a w hS hM => y_val rfl (r_bv hS rfl (show ev _ _ = some (Y 1) from rfl) gY (b_addY _ _ _ (by omega)))) ?_
      refine t_step rfl rfl rfl (fun a w hS hM => y_val rfl (r_idxS hS (show ev _ _ = some (SV pairs) from rfl) rfl Tryd.underlying9 (pair_lo (c := q % 10000 / 100) (by omega)))) ?_
      refine t_float rfl rfl rfl rfl (fun a w hS => (r_move hS rfl)) ?_
      refine t_float rfl rfl rfl rfl (fun a w hS => (r_idxS hS (show ev _ _ = some (SV pairs) from rfl) rfl Tryd.underlying9 (pair_hi (c := q % 10000 / 100) (by omega)))) ?_
      refine t_step rfl rfl rfl (fun a w hS hM => y_val rfl (r_indexS0 hS rfl rfl Tryd.underlying56 sz5 (by omega))) ?_
      refine t_write rfl rfl rfl rfl (fun a w hS hM => e_storeB hS hM rfl rfl (j := 0) rfl sz5 (by omega)) ?_
      refine p_nil rfl ?_; intro a w hS hM
      refine s_val hS (by decide) rfl rfl (r_indexS0 hS rfl rfl Tryd.underlying56 sz5 (by omega)) ?_; clear hS; intro a hS
      refine s_storeB hS hM rfl rfl (j := 0) rfl sz5 (by omega) ?_; clear hS hM; intro a w hS hM
      rw [mk_two hA (i := p - 3) (j := p - 4) (by omega) (by omega) f (c := q % 10000 / 100) (by omega)] at hM; replace hA := hA.two (j := p - 4) (by omega)
      refine s_nil ?_
      refine k_seq ?_
      refine c_region ?_
      refine s_val hS (by decide) rfl rfl (r_move hS rfl) ?_; clear hS; intro a hS
      refine s_val hS (by decide) rfl rfl (r_bv hS rfl (show ev _ _ = some (N 4) from rfl) gN (b_subN _ _ _ (by omega) (by omega))) ?_; clear hS; intro a hS
      refine s_val hS (by decide) rfl rfl (r_assign hS rfl) ?_; clear hS; intro a hS
      rw [show q / 100 / 100 = q / 10000 by omega] at hA
      refine s_nil ?_
      refine k_seq ?_
      refine c_seq ?_
      refine c_seq ?_
      refine c_region ?_
      refine s_val hS (by decide) rfl rfl (r_move hS rfl) ?_; clear hS; intro a hS
      refine s_val hS (by decide) rfl rfl (r_bv hS rfl (show ev _ _ = some (N 2) from rfl) gN (b_geqN _ _ _)) ?_; clear hS; intro a hS
      refine s_nil ?_
      refine k_seq ?_
      refine c_cond hS rfl (fun hc => ?_) (fun hc => ?_)
      · have h139 := of_decide_eq_true hc
        refine c_seq ?_
        refine c_region ?_
        refine s_val hS (by decide) rfl rfl (r_move hS rfl) ?_; clear hS; intro a hS
        refine s_val hS (by decide) rfl rfl (r_bv hS rfl (show ev _ _ = some (Y 100) from rfl) gY (b_remY _ _ _ (by omega))) ?_; clear hS; intro a hS
        refine s_val hS (by decide) rfl rfl (r_bv hS rfl (show ev _ _ = some (Y 2) from rfl) gY (b_mulY _ _ _ (by omega))) ?_; clear hS; intro a hS
        refine s_val hS (by decide) rfl rfl (r_assign hS rfl) ?_; clear hS; intro a hS
        refine s_nil ?_
        refine k_seq ?_
        refine c_seq ?_
        refine c_region ?_
        refine s_val hS (by decide) rfl rfl (r_move hS rfl) ?_; clear hS; intro a hS
        refine s_val hS (by decide) rfl rfl (r_bv hS rfl (show ev _ _ = some (Y 100) from rfl) gY (b_quoY _ _ _ (by omega) (by omega))) ?_; clear hS; intro a hS
        refine s_val hS (by decide) rfl rfl (r_assign hS rfl) ?_; clear hS; intro a hS
        refine s_nil ?_
        refine k_seq ?_
        refine c_seq ?_
        refine c_two 13 12 (fun i => Nat.beq i 3 || Nat.beq i 4 || Nat.beq i 5 || Nat.beq i 9 || Nat.beq i 10) (fun w => Mem w0 w _) [(0, _), (4, _), (16, _), (12, _)] (by kernel_rfl) (by kernel_rfl) hS ⟨rfl, rfl, rfl, rfl, trivial⟩ (hM.drawn _) ?_; clear hS hM
        refine t_step rfl rfl rfl (fun a w hS hM => y_val rfl (r_move hS rfl)) ?_
        refine t_step rfl rfl rfl (fun a w hS hM => y_val rfl (r_move hS rfl)) ?_
        refine t_step rfl rfl rfl (fun a w hS hM => y_val rfl (r_bv hS rfl (show ev _ _ = some (N 1) from rfl) gN (b_subN _ _ _ (by omega) (by omega)))) ?_
        refine t_float rfl rfl rfl rfl (fun a w hS => (r_move hS rfl)) ?_
        refine t_float rfl rfl rfl rfl (fun a w hS => (r_move hS rfl)) ?_
        refine t_float rfl rfl rfl rfl (fun a w hS => (r_bv hS rfl (show ev _ _ = some (N 2) from rfl) gN (b_subN _ _ _ (by omega) (by omega)))) ?_
        refine t_step rfl rfl rfl (fun a w hS hM => y_val rfl (r_move hS rfl)) ?_
        refine t_step rfl rfl rfl (fun a w hS hM => y_val rfl (r_bv hS rfl (show ev _ _ = some (Y 1) from rfl) gY (b_addY _ _ _ (by omega)))) ?_
        refine t_step rfl rfl rfl (fun a w hS hM => y_val rfl (r_idxS hS (show ev _ _ = some (SV pairs) from rfl) rfl Tryd.underlying9 (by first | exact pair_lo (c := q / 10000 % 100) (by omega) | exact pair_lo (c := q % 100) (by omega)))) ?_
        refine t_float rfl rfl rfl rfl (fun a w hS => (r_move hS rfl)) ?_
        refine t_float rfl rfl rfl rfl (fun a w hS => (r_idxS hS (show ev _ _ = some (SV pairs) from rfl) rfl Tryd.underlying9 (by first | exact pair_hi (c := q / 10000 % 100) (by omega) | exact pair_hi (c := q % 100) (by omega)))) ?_
        refine t_step rfl rfl rfl (fun a w hS hM => y_val rfl (r_indexS0 hS rfl rfl Tryd.underlying56 sz5 (by omega))) ?_
        refine t_write rfl rfl rfl rfl (fun a w hS hM => e_storeB hS hM rfl rfl (j := 0) rfl sz5 (by omega)) ?_
        refine p_nil rfl ?_; intro a w hS hM
        refine s_val hS (by decide) rfl rfl (r_indexS0 hS rfl rfl Tryd.underlying56 sz5 (by omega)) ?_; clear hS; intro a hS
        refine s_storeB hS hM rfl rfl (j := 0) rfl sz5 (by omega) ?_; clear hS hM; intro a w hS hM
        first | (rw [mk_two hA (i := p - 4 - 1) (j := p - 4 - 2) (by omega) (by omega) f (c := q / 10000 % 100) (by omega)] at hM; replace hA := hA.two (j := p - 4 - 2) (by omega)) | (rw [mk_two hA (i := p - 1) (j := p - 2) (by omega) (by omega) f (c := q % 100) (by omega)] at hM; replace hA := hA.two (j := p - 2) (by omega))
        refine s_nil ?_
        refine k_seq ?_
        refine c_region ?_
        refine s_val hS (by decide) rfl rfl (r_move hS rfl) ?_; clear hS; intro a hS
        refine s_val hS (by decide) rfl rfl (r_bv hS rfl (show ev _ _ = some (N 2) from rfl) gN (b_subN _ _ _ (by omega) (by omega))) ?_; clear hS; intro a hS
        refine s_val hS (by decide) rfl rfl (r_assign hS rfl) ?_; clear hS; intro a hS
        refine s_nil ?_
        refine k_seq ?_
        refine c_seq ?_
        refine c_region ?_
        refine s_val hS (by decide) rfl rfl (r_move hS rfl) ?_; clear hS; intro a hS
        refine s_val hS (by decide) rfl rfl (r_bv hS rfl (show ev _ _ = some (N 0) from rfl) gN (b_gtrN _ _ _)) ?_; clear hS; intro a hS
        refine s_nil ?_
        refine k_seq ?_
        refine c_cond hS rfl (fun hc => ?_) (fun hc => ?_)
        · have h161 := of_decide_eq_true hc; have hq1 := hA.lt hn (m := 1) (M := 10) (by omega) (by decide)
          refine c_region ?_
          refine s_val hS (by decide) rfl rfl (r_move hS rfl) ?_; clear hS; intro a hS
          refine s_val hS (by decide) rfl rfl (r_move hS rfl) ?_; clear hS; intro a hS
          refine s_val hS (by decide) rfl rfl (r_bv hS (show ev _ _ = some (Y 48) from rfl) rfl gY (b_addY _ _ _ (by omega))) ?_; clear hS; intro a hS
          refine s_val hS (by decide) rfl rfl (r_conv hS rfl (by kernel_rfl) Tryd.underlying5 (cv_YB _)) ?_; clear hS; intro a hS
          refine s_val hS (by decide) rfl rfl (r_indexS0 hS rfl (show ev _ _ = some (.int .i64 ((0 : Nat) : Int)) from rfl) Tryd.underlying56 sz5 (by omega)) ?_; clear hS; intro a hS
          refine s_storeB hS hM rfl rfl (j := 0) rfl sz5 (by omega) ?_; clear hS hM; intro a w hS hM
          rw [hA.last (by omega) hq1 f] at hM
          refine s_nil ?_
          exact k_res0n hS rfl ⟨rfl, hM⟩
        · have h161 := of_decide_eq_false hc; rw [hA.fin (by omega) f] at hM
          refine c_skip ?_
          exact k_res0n hS rfl ⟨rfl, hM⟩
      · have h139 := of_decide_eq_false hc
        refine c_skip ?_
        refine k_seq ?_
        refine c_seq ?_
        refine c_region ?_
        refine s_val hS (by decide) rfl rfl (r_move hS rfl) ?_; clear hS; intro a hS
        refine s_val hS (by decide) rfl rfl (r_bv hS rfl (show ev _ _ = some (N 0) from rfl) gN (b_gtrN _ _ _)) ?_; clear hS; intro a hS
        refine s_nil ?_
        refine k_seq ?_
        refine c_cond hS rfl (fun hc => ?_) (fun hc => ?_)
        · have h161 := of_decide_eq_true hc; have hq1 := hA.lt hn (m := 1) (M := 10) (by omega) (by decide)
          refine c_region ?_
          refine s_val hS (by decide) rfl rfl (r_move hS rfl) ?_; clear hS; intro a hS
          refine s_val hS (by decide) rfl rfl (r_move hS rfl) ?_; clear hS; intro a hS
          refine s_val hS (by decide) rfl rfl (r_bv hS (show ev _ _ = some (Y 48) from rfl) rfl gY (b_addY _ _ _ (by omega))) ?_; clear hS; intro a hS
          refine s_val hS (by decide) rfl rfl (r_conv hS rfl (by kernel_rfl) Tryd.underlying5 (cv_YB _)) ?_; clear hS; intro a hS
          refine s_val hS (by decide) rfl rfl (r_indexS0 hS rfl (show ev _ _ = some (.int .i64 ((0 : Nat) : Int)) from rfl) Tryd.underlying56 sz5 (by omega)) ?_; clear hS; intro a hS
          refine s_storeB hS hM rfl rfl (j := 0) rfl sz5 (by omega) ?_; clear hS hM; intro a w hS hM
          rw [hA.last (by omega) hq1 f] at hM
          refine s_nil ?_
          exact k_res0n hS rfl ⟨rfl, hM⟩
        · have h161 := of_decide_eq_false hc; rw [hA.fin (by omega) f] at hM
          refine c_skip ?_
          exact k_res0n hS rfl ⟨rfl, hM⟩
    · have h99 := of_decide_eq_false hc; have hq4 := hA.lt hn (m := 4) (M := 10000) (by omega) (by decide)
      refine c_skip ?_
      refine k_seq ?_
      refine c_seq ?_
      refine c_seq ?_
      refine c_region ?_
      refine s_val hS (by decide) rfl rfl (r_move hS rfl) ?_; clear hS; intro a hS
      refine s_val hS (by decide) rfl rfl (r_bv hS rfl (show ev _ _ = some (N 2) from rfl) gN (b_geqN _ _ _)) ?_; clear hS; intro a hS
      refine s_nil ?_
      refine k_seq ?_
      refine c_cond hS rfl (fun hc => ?_) (fun hc => ?_)
      · have h139 := of_decide_eq_true hc
        refine c_seq ?_
        refine c_region ?_
        refine s_val hS (by decide) rfl rfl (r_move hS rfl) ?_; clear hS; intro a hS
        refine s_val hS (by decide) rfl rfl (r_bv hS rfl (show ev _ _ = some (Y 100) from rfl) gY (b_remY _ _ _ (by omega))) ?_; clear hS; intro a hS
        refine s_val hS (by decide) rfl rfl (r_bv hS rfl (show ev _ _ = some (Y 2) from rfl) gY (b_mulY _ _ _ (by omega))) ?_; clear hS; intro a hS
        refine s_val hS (by decide) rfl rfl (r_assign hS rfl) ?_; clear hS; intro a hS
        refine s_nil ?_
        refine k_seq ?_
        refine c_seq ?_
        refine c_region ?_
        refine s_val hS (by decide) rfl rfl (r_move hS rfl) ?_; clear hS; intro a hS
        refine s_val hS (by decide) rfl rfl (r_bv hS rfl (show ev _ _ = some (Y 100) from rfl) gY (b_quoY _ _ _ (by omega) (by omega))) ?_; clear hS; intro a hS
        refine s_val hS (by decide) rfl rfl (r_assign hS rfl) ?_; clear hS; intro a hS
        refine s_nil ?_
        refine k_seq ?_
        refine c_seq ?_
        refine c_two 13 12 (fun i => Nat.beq i 3 || Nat.beq i 4 || Nat.beq i 5 || Nat.beq i 9 || Nat.beq i 10) (fun w => Mem w0 w _) [(0, _), (4, _), (16, _), (12, _)] (by kernel_rfl) (by kernel_rfl) hS ⟨rfl, rfl, rfl, rfl, trivial⟩ (hM.drawn _) ?_; clear hS hM
        refine t_step rfl rfl rfl (fun a w hS hM => y_val rfl (r_move hS rfl)) ?_
        refine t_step rfl rfl rfl (fun a w hS hM => y_val rfl (r_move hS rfl)) ?_
        refine t_step rfl rfl rfl (fun a w hS hM => y_val rfl (r_bv hS rfl (show ev _ _ = some (N 1) from rfl) gN (b_subN _ _ _ (by omega) (by omega)))) ?_
        refine t_float rfl rfl rfl rfl (fun a w hS => (r_move hS rfl)) ?_
        refine t_float rfl rfl rfl rfl (fun a w hS => (r_move hS rfl)) ?_
        refine t_float rfl rfl rfl rfl (fun a w hS => (r_bv hS rfl (show ev _ _ = some (N 2) from rfl) gN (b_subN _ _ _ (by omega) (by omega)))) ?_
        refine t_step rfl rfl rfl (fun a w hS hM => y_val rfl (r_move hS rfl)) ?_
        refine t_step rfl rfl rfl (fun a w hS hM => y_val rfl (r_bv hS rfl (show ev _ _ = some (Y 1) from rfl) gY (b_addY _ _ _ (by omega)))) ?_
        refine t_step rfl rfl rfl (fun a w hS hM => y_val rfl (r_idxS hS (show ev _ _ = some (SV pairs) from rfl) rfl Tryd.underlying9 (by first | exact pair_lo (c := q / 10000 % 100) (by omega) | exact pair_lo (c := q % 100) (by omega)))) ?_
        refine t_float rfl rfl rfl rfl (fun a w hS => (r_move hS rfl)) ?_
        refine t_float rfl rfl rfl rfl (fun a w hS => (r_idxS hS (show ev _ _ = some (SV pairs) from rfl) rfl Tryd.underlying9 (by first | exact pair_hi (c := q / 10000 % 100) (by omega) | exact pair_hi (c := q % 100) (by omega)))) ?_
        refine t_step rfl rfl rfl (fun a w hS hM => y_val rfl (r_indexS0 hS rfl rfl Tryd.underlying56 sz5 (by omega))) ?_
        refine t_write rfl rfl rfl rfl (fun a w hS hM => e_storeB hS hM rfl rfl (j := 0) rfl sz5 (by omega)) ?_
        refine p_nil rfl ?_; intro a w hS hM
        refine s_val hS (by decide) rfl rfl (r_indexS0 hS rfl rfl Tryd.underlying56 sz5 (by omega)) ?_; clear hS; intro a hS
        refine s_storeB hS hM rfl rfl (j := 0) rfl sz5 (by omega) ?_; clear hS hM; intro a w hS hM
        first | (rw [mk_two hA (i := p - 4 - 1) (j := p - 4 - 2) (by omega) (by omega) f (c := q / 10000 % 100) (by omega)] at hM; replace hA := hA.two (j := p - 4 - 2) (by omega)) | (rw [mk_two hA (i := p - 1) (j := p - 2) (by omega) (by omega) f (c := q % 100) (by omega)] at hM; replace hA := hA.two (j := p - 2) (by omega))
        refine s_nil ?_
        refine k_seq ?_
        refine c_region ?_
        refine s_val hS (by decide) rfl rfl (r_move hS rfl) ?_; clear hS; intro a hS
        refine s_val hS (by decide) rfl rfl (r_bv hS rfl (show ev _ _ = some (N 2) from rfl) gN (b_subN _ _ _ (by omega) (by omega))) ?_; clear hS; intro a hS
        refine s_val hS (by decide) rfl rfl (r_assign hS rfl) ?_; clear hS; intro a hS
        refine s_nil ?_
        refine k_seq ?_
        refine c_seq ?_
        refine c_region ?_
        refine s_val hS (by decide) rfl rfl (r_move hS rfl) ?_; clear hS; intro a hS
        refine s_val hS (by decide) rfl rfl (r_bv hS rfl (show ev _ _ = some (N 0) from rfl) gN (b_gtrN _ _ _)) ?_; clear hS; intro a hS
        refine s_nil ?_
        refine k_seq ?_
        refine c_cond hS rfl (fun hc => ?_) (fun hc => ?_)
        · have h161 := of_decide_eq_true hc; have hq1 := hA.lt hn (m := 1) (M := 10) (by omega) (by decide)
          refine c_region ?_
          refine s_val hS (by decide) rfl rfl (r_move hS rfl) ?_; clear hS; intro a hS
          refine s_val hS (by decide) rfl rfl (r_move hS rfl) ?_; clear hS; intro a hS
          refine s_val hS (by decide) rfl rfl (r_bv hS (show ev _ _ = some (Y 48) from rfl) rfl gY (b_addY _ _ _ (by omega))) ?_; clear hS; intro a hS
          refine s_val hS (by decide) rfl rfl (r_conv hS rfl (by kernel_rfl) Tryd.underlying5 (cv_YB _)) ?_; clear hS; intro a hS
          refine s_val hS (by decide) rfl rfl (r_indexS0 hS rfl (show ev _ _ = some (.int .i64 ((0 : Nat) : Int)) from rfl) Tryd.underlying56 sz5 (by omega)) ?_; clear hS; intro a hS
          refine s_storeB hS hM rfl rfl (j := 0) rfl sz5 (by omega) ?_; clear hS hM; intro a w hS hM
          rw [hA.last (by omega) hq1 f] at hM
          refine s_nil ?_
          exact k_res0n hS rfl ⟨rfl, hM⟩
        · have h161 := of_decide_eq_false hc; rw [hA.fin (by omega) f] at hM
          refine c_skip ?_
          exact k_res0n hS rfl ⟨rfl, hM⟩
      · have h139 := of_decide_eq_false hc
        refine c_skip ?_
        refine k_seq ?_
        refine c_seq ?_
        refine c_region ?_
        refine s_val hS (by decide) rfl rfl (r_move hS rfl) ?_; clear hS; intro a hS
        refine s_val hS (by decide) rfl rfl (r_bv hS rfl (show ev _ _ = some (N 0) from rfl) gN (b_gtrN _ _ _)) ?_; clear hS; intro a hS
        refine s_nil ?_
        refine k_seq ?_
        refine c_cond hS rfl (fun hc => ?_) (fun hc => ?_)
        · have h161 := of_decide_eq_true hc; have hq1 := hA.lt hn (m := 1) (M := 10) (by omega) (by decide)
          refine c_region ?_
          refine s_val hS (by decide) rfl rfl (r_move hS rfl) ?_; clear hS; intro a hS
          refine s_val hS (by decide) rfl rfl (r_move hS rfl) ?_; clear hS; intro a hS
          refine s_val hS (by decide) rfl rfl (r_bv hS (show ev _ _ = some (Y 48) from rfl) rfl gY (b_addY _ _ _ (by omega))) ?_; clear hS; intro a hS
          refine s_val hS (by decide) rfl rfl (r_conv hS rfl (by kernel_rfl) Tryd.underlying5 (cv_YB _)) ?_; clear hS; intro a hS
          refine s_val hS (by decide) rfl rfl (r_indexS0 hS rfl (show ev _ _ = some (.int .i64 ((0 : Nat) : Int)) from rfl) Tryd.underlying56 sz5 (by omega)) ?_; clear hS; intro a hS
          refine s_storeB hS hM rfl rfl (j := 0) rfl sz5 (by omega) ?_; clear hS hM; intro a w hS hM
          rw [hA.last (by omega) hq1 f] at hM
          refine s_nil ?_
          exact k_res0n hS rfl ⟨rfl, hM⟩
        · have h161 := of_decide_eq_false hc; rw [hA.fin (by omega) f] at hM
          refine c_skip ?_
          exact k_res0n hS rfl ⟨rfl, hM⟩
end Go.Proofs.YtbfiaoemoookcaaDoor
